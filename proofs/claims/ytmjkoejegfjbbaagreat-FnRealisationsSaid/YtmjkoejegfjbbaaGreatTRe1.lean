/-
  Numbers of elements: impl.numberOf, spec.l10Number, impl.elementAt, spec.l10At, spec.l10One.
  append of one element inside a region that draws its order.
  Rows of bools of the call's own; a region that ends in a store.
  Plain: relators, their values under images, homomorphisms and preimages.
  Words: impl.abs, normalWord, invertWord, slices.Reverse; spec.l07Word, l06Invert.
  Words: spec.l07Word, l06Invert.
  Drawing: spec.l07Turn (printed by gen_turn.py).
  Plain: a group of order at most 32 has at most 17408 subgroups (a crude bound).
  Drawing: spec.l01From makes the source of numbers.
  Plain: a presentation whose relations are held by members of a monoid that cancel, no two vectors alike, is consistent; words of bijections; a regular realisation makes a presentation consistent.
  Bijections, the program's side: isBijection, compose, inverseBijection, IsBijection, ComposeBijections.
  impl.IsBijection, ComposeBijections on bijections.
  Plain: what is reached from 0 under a list of bijections, step by step.
  Words: slices.Reverse, impl.invertWord.
  slices.Repeat at a list of one integer.
  impl.PresentationRelators.
  Bijections, the program's side: inverseBijection, composeWord, IsRealisation.
-/
import Derived.Test.YtmjkoejegfjbbaaGreatC16
import Derived.Test.YtmjkoejegfjbbaaGreatC1
import Derived.Test.YtmjkoejegfjbbaaGreatC2
import Derived.Test.YtmjkoejegfjbbaaGreatC3
import Derived.Test.YtmjkoejegfjbbaaGreatC4
import Derived.Test.YtmjkoejegfjbbaaGreatC5
import Derived.Test.YtmjkoejegfjbbaaGreatC6
import Derived.Test.YtmjkoejegfjbbaaGreatC7
import Derived.Test.YtmjkoejegfjbbaaGreatC8
import Derived.Test.YtmjkoejegfjbbaaGreatC9
import Derived.Test.YtmjkoejegfjbbaaGreatC10
import Derived.Test.YtmjkoejegfjbbaaGreatC11
import Derived.Test.YtmjkoejegfjbbaaGreatC12
import Derived.Test.YtmjkoejegfjbbaaGreatC13
import Derived.Test.YtmjkoejegfjbbaaGreatC14
import Derived.Test.YtmjkoejegfjbbaaGreatC15
import Derived.Deep.AppendLies
import Derived.StillTailTactics
import Derived.Sort.OwnSortedInts
import Derived.Shelf.SlicesE.Reverse
import Derived.Laws.CopyOwn
import Derived.Deep.RegionLaw
import Derived.Shelf.Bits.Mul64
namespace Go.Proofs.YtmjkoejegfjbbaaGreat
open Go.RowKit
set_option maxHeartbeats 400000 in
theorem numberOf_ok (P : Pr) (hP : Valid P) (w : World) (p x : Value) (X : List Int) (Sp Sx : Nat → Prop) (hp : PresP Sp w p P) (hx : Ints Sx w x X) (hX : Vec P.orders X) :
  Calls Tryz.prog 159 #[p, x] w fun e w' => e = .returned (.int .i64 (num P X)) ∧ w = w' := by
 have hn6 := hP.n6
 have hlX : X.length ≤ P.orders.length ∧ P.orders.length ≤ X.length := by rw [hX.1]; omega
 obtain ⟨pb, po, rfl⟩ := hp.shape
 obtain ⟨ax, capx, rfl, _, _⟩ := hx.shape
 obtain ⟨ao, capo, hco, hoi⟩ := hp.ordAt
 go_enter Tryz.func159, Tryz.ntmps159
 go_wp2
 go_loop [5, 10] (fun nv i => ∃ k : Nat, i = .int .i64 k ∧ nv = .int .i64 (numTo P.orders X k) ∧ k ≤ X.length) (fun _ i => X.length - (intOf i).toNat)
 case atStart => exact ⟨0, rfl, rfl, by omega⟩
 case round =>
  obtain ⟨k, rfl, rfl, hk⟩ := hrel
  by_cases hlt : k < X.length
  ·obtain ⟨b, off, rfl, _, _, hc⟩ := Ints.at hx k hlt
   obtain ⟨b2, off2, rfl, _, _, hc2⟩ := Ints.at hoi k (by omega)
   have h1 := numTo_bd hP hX (k + 1) (by omega)
   have h2 := hP.pre (k + 1) (by omega)
   have h3 := hX.2 k (by omega)
   have h4 := numTo_bd hP hX k (by omega)
   have h7 := hP.ord7 k (by omega)
   have h5 : 0 ≤ numTo P.orders X k * gt P.orders k := Int.mul_nonneg h4.1 (by omega)
   have h6 : numTo P.orders X k * gt P.orders k ≤ 729 := by simp only [numTo] at h1; omega
   have h8 : 0 ≤ gt X k := h3.1
   have h9 : gt X k ≤ 7 := by omega
   clear h1 h2 h3 h4 h7
   go_wp2
   go_round
   case rel => exact ⟨k + 1, by go_num, rfl, by omega⟩
   case measure => simp [intOf]; omega
  ·have hke : k = P.orders.length := by omega
   subst hke
   go_wp2
   go_ret
   exact ⟨rfl, rfl⟩
set_option maxHeartbeats 400000 in
theorem l10Number_ok (P : Pr) (hP : Valid P) (w : World) (pv x : Value) (X : List Int) (Sp Sx : Nat → Prop) (hp : PresV Sp w pv P) (hx : Ints Sx w x X) (hX : Vec P.orders X) :
  Calls Tryz.prog 287 #[pv, x] w (Ret w fun _ v => v = .int .i64 (num P X)) := by
 obtain ⟨vo, vp, vc, rfl, h3⟩ := hp
 have hn6 := hP.n6
 have hlX : X.length ≤ P.orders.length ∧ P.orders.length ≤ X.length := by rw [hX.1]; omega
 have hB := PresP.box h3 39
 have hg0 : Ext w (w.alloc (.cells #[vo, vp, vc] 39)) := World.grownBy_alloc _ _ _
 have hx0 := hx.ext hg0
 obtain ⟨ax, capx, rfl, _, _⟩ := hx.shape
 go_enter Tryz.func287, Tryz.ntmps287
 go_wp2
 generalize hw0 : w.alloc (.cells #[vo, vp, vc] 39) = w0 at *
 clear hw0
 go_loopw [5, 6] (fun nv i wr => ∃ k : Nat, i = .int .i64 k ∧ nv = .int .i64 (numTo P.orders X k) ∧ k ≤ X.length ∧ Ext w0 wr) (fun _ i _ => X.length - (intOf i).toNat)
 case atStart => exact ⟨0, rfl, rfl, by omega, Ext.refl _⟩
 case round =>
  obtain ⟨k, rfl, rfl, hk, hg⟩ := hrel
  by_cases hlt : k < X.length
  ·obtain ⟨ao, capo, hco, hoi⟩ := (hB.ext hg).ordAt
   obtain ⟨b, off, rfl, _, _, hc⟩ := Ints.at (hx0.ext hg) k hlt
   obtain ⟨b2, off2, rfl, _, _, hc2⟩ := Ints.at hoi k (by omega)
   have h1 := numTo_bd hP hX (k + 1) (by omega)
   have h2 := hP.pre (k + 1) (by omega)
   have h3 := hX.2 k (by omega)
   have h4 := numTo_bd hP hX k (by omega)
   have h7 := hP.ord7 k (by omega)
   have h5 : 0 ≤ numTo P.orders X k * gt P.orders k := Int.mul_nonneg h4.1 (by omega)
   have h6 : numTo P.orders X k * gt P.orders k ≤ 729 := by simp only [numTo] at h1; omega
   have h8 : 0 ≤ gt X k := h3.1
   have h9 : gt X k ≤ 7 := by omega
   have hk1 : (k : Int) < X.length := by omega
   have hk2 : (k : Int) < P.orders.length := by omega
   have s1 : IntKind.i64.wrap (numTo P.orders X k * gt P.orders k) = numTo P.orders X k * gt P.orders k := IntWalk.i64_in _ (by omega)
   have s2 : IntKind.i64.wrap (numTo P.orders X k * gt P.orders k + gt X k) = numTo P.orders X k * gt P.orders k + gt X k := IntWalk.i64_in _ (by omega)
   clear h1 h2 h3 h4 h7
   go_wp2
   go_quiet (fail)
   clear s1 s2
   go_wp2
   go_roundw
   case rel => exact ⟨k + 1, by go_num, rfl, by omega, grown_trans hg (grown_drewN _ _ _)⟩
   case measure => simp [intOf]; omega
  ·have hke : k = P.orders.length := by omega
   subst hke
   go_wp2
   go_ret
   exact ⟨_, rfl, grown_trans hg0 hg, rfl⟩
set_option maxHeartbeats 1000000 in
theorem elementAt_ok (P : Pr) (hP : Valid P) (w : World) (p : Value) (m : Int) (Sp : Nat → Prop) (hp : PresP Sp w p P) (hm : 0 ≤ m) (hm2 : m ≤ 1000000000) :
  Calls Tryz.prog 265 #[p, .int .i64 m] w (Ret w fun w' v => Own w.heap.size w' v (elAt P m)) := by
 have hn6 := hP.n6
 obtain ⟨pb, po, rfl⟩ := hp.shape
 obtain ⟨ao, capo, hco0, hoi⟩ := hp.ordAt
 have hco := hco0
 go_enter Tryz.func265, Tryz.ntmps265
 go_wp2_with (at_make; refine wp_make_ints rfl _ _ rfl w.heap.size P.orders.length w.heap.size rfl _ rfl rfl rfl (by omega) (by simp) ?_; intro w1 ho1 hg1 _)
 clear hco
 have HCO := Lib.hid hco0; clear hco0
 go_loopw [1, 6] (fun mv i wr => ∃ k : Nat, i = .int .i64 ((P.orders.length : Int) - 1 - k) ∧ mv = .int .i64 (elTo P.orders P.orders.length m k).2 ∧ k ≤ P.orders.length ∧ Ext w wr ∧
   Own w.heap.size wr (.slice (some ⟨w.heap.size, 0, none⟩) P.orders.length P.orders.length) (elTo P.orders P.orders.length m k).1) (fun _ i _ => (intOf i + 1).toNat)
 case atStart => exact ⟨0, by simp, rfl, by omega, hg1, ho1⟩
 case round =>
  obtain ⟨k, rfl, rfl, hk, hg, hO⟩ := hrel
  obtain ⟨hv, hm0, hm1⟩ := elTo_inv hP m hm k hk
  by_cases hlt : k < P.orders.length
  ·obtain ⟨b2, off2, rfl, _, _, hc20⟩ := Ints.at hoi (P.orders.length - 1 - k) (by omega)
   have hco := hg.cell HCO.out (by simp)
   have hc2 := hg.cell hc20 (by simp)
   have ho7 := hP.ord7 (P.orders.length - 1 - k) (by omega)
   have hc := hO.cell (P.orders.length - 1 - k) (by rw [hv.1]; omega)
   have hf := hO.frozen (P.orders.length - 1 - k)
   have hsucc : elTo P.orders P.orders.length m (k + 1) = ((elTo P.orders P.orders.length m k).1.set (P.orders.length - 1 - k) ((elTo P.orders P.orders.length m k).2 % gt P.orders (P.orders.length - 1 - k)), (elTo P.orders P.orders.length m k).2 / gt P.orders (P.orders.length - 1 - k)) := rfl
   have HSC := Lib.hid hsucc; clear hsucc
   obtain ⟨hO2, hg2⟩ := hO.store (P.orders.length - 1 - k) ((elTo P.orders P.orders.length m k).2 % gt P.orders (P.orders.length - 1 - k))
   have hgx : Ext w (wr.setCell ⟨w.heap.size, P.orders.length - 1 - k, none⟩ (.int .i64 ((elTo P.orders P.orders.length m k).2 % gt P.orders (P.orders.length - 1 - k)))) := grown_own hg hg2 (fun j hj hlt => by cases hj; omega)
   have hco3 := hgx.cell HCO.out (by simp)
   have hc23 := hgx.cell hc20 (by simp)
   clear hc20
   have hidx : ((P.orders.length : Int) - 1 - k).toNat = P.orders.length - 1 - k := by omega
   generalize hi : P.orders.length - 1 - k = i at *
   generalize (elTo P.orders P.orders.length m k).1 = L at *
   generalize (elTo P.orders P.orders.length m k).2 = M at *
   have ho70 : 2 ≤ gt P.orders i := ho7.1
   have ho71 : gt P.orders i ≤ 7 := ho7.2
   have HI := Lib.hid hi; clear hi ho7
   go_wp2
   go_roundw
   case rel => exact ⟨k + 1, by congr 1; omega, by rw [HSC.out], by omega, hgx, by rw [HSC.out]; exact hO2⟩
   case measure => simp [intOf]; omega
  ·have hke : k = P.orders.length := by omega
   subst hke
   go_wp2
   go_ret
   exact ⟨_, rfl, hg, hO⟩
set_option maxHeartbeats 1000000 in
theorem l10At_ok (P : Pr) (hP : Valid P) (w : World) (pv : Value) (m : Int) (Sp : Nat → Prop) (hpv : PresV Sp w pv P) (hm : 0 ≤ m) (hm2 : m ≤ 1000000000) :
  Calls Tryz.prog 288 #[pv, .int .i64 m] w (Ret w fun w' v => Own w.heap.size w' v (elAt P m)) := by
 have hn6 := hP.n6
 obtain ⟨vo, vp, vc, rfl, h3⟩ := hpv
 have hp := PresP.box h3 39
 have hg0 : Ext w (w.alloc (.cells #[vo, vp, vc] 39)) := World.grownBy_alloc _ _ _
 obtain ⟨vo9, vp9, vc9, _, _, hc0, hc1, hc2, h39⟩ := hp.at
 obtain ⟨ao, capo, hco, hoi⟩ := hp.ordAt
 go_enter Tryz.func288, Tryz.ntmps288
 go_wp2_with fail
 have hs0 : (w.alloc (.cells #[vo, vp, vc] 39)).heap.size = w.heap.size + 1 := by simp
 have HS := Lib.hid hs0; clear hs0
 clear hc0 hc1 hc2
 have HCO := Lib.hid hco; clear hco
 generalize hw0 : w.alloc (.cells #[vo, vp, vc] 39) = w0 at *
 clear hw0
 refine Calls.mono (l10One_ok P hP w0 _ Any ⟨_, _, _, rfl, h39⟩) ?_
 rintro e1 w1 ⟨r, rfl, hg1, ho1⟩
 have hri := ho1.ints (by simp [zeros]; omega)
 obtain ⟨ar, capr, rfl, _, _⟩ := hri.shape
 have hzl : (zeros P.orders.length).length = P.orders.length := by simp [zeros]
 rw [hzl] at hri
 have ho1 : Own w0.heap.size w1 (.slice ar P.orders.length capr) (zeros P.orders.length) := by rw [hzl] at ho1; exact ho1
 simp only [hzl]
 clear hzl hri
 go_wp2
 go_loopw [1, 6] (fun mv i wr => ∃ k : Nat, i = .int .i64 ((P.orders.length : Int) - 1 - k) ∧ mv = .int .i64 (elTo P.orders P.orders.length m k).2 ∧ k ≤ P.orders.length ∧ Ext w0 wr ∧
   Own w0.heap.size wr (.slice ar P.orders.length capr) (elTo P.orders P.orders.length m k).1) (fun _ i _ => (intOf i + 1).toNat)
 case atStart => exact ⟨0, by simp, rfl, by omega, hg1, ho1⟩
 case round =>
  clear ho1
  obtain ⟨k, rfl, rfl, hk, hg, hO⟩ := hrel
  obtain ⟨hv, hm0, hm1⟩ := elTo_inv hP m hm k hk
  by_cases hlt : k < P.orders.length
  ·obtain ⟨g, capg, hfm, hgb, hgs⟩ := hO.form (by rw [hv.1]; omega)
   rw [hv.1] at hfm
   obtain ⟨rfl, _⟩ : ar = some ⟨g, 0, none⟩ ∧ capr = capg := by cases hfm; exact ⟨rfl, rfl⟩
   clear hfm
   obtain ⟨b2, off2, rfl, _, _, hc20⟩ := Ints.at hoi (P.orders.length - 1 - k) (by omega)
   have hco := hg.cell HCO.out (by simp)
   have hc2 := hg.cell hc20 (by simp)
   have ho7 := hP.ord7 (P.orders.length - 1 - k) (by omega)
   have hc := hO.cell (P.orders.length - 1 - k) (by rw [hv.1]; omega)
   have hf := hO.frozen (P.orders.length - 1 - k)
   have hsucc : elTo P.orders P.orders.length m (k + 1) = ((elTo P.orders P.orders.length m k).1.set (P.orders.length - 1 - k) ((elTo P.orders P.orders.length m k).2 % gt P.orders (P.orders.length - 1 - k)), (elTo P.orders P.orders.length m k).2 / gt P.orders (P.orders.length - 1 - k)) := rfl
   have HSC := Lib.hid hsucc; clear hsucc
   obtain ⟨hO2, hg2⟩ := hO.store (P.orders.length - 1 - k) ((elTo P.orders P.orders.length m k).2 % gt P.orders (P.orders.length - 1 - k))
   have hgx : Ext w0 (wr.setCell ⟨g, P.orders.length - 1 - k, none⟩ (.int .i64 ((elTo P.orders P.orders.length m k).2 % gt P.orders (P.orders.length - 1 - k)))) := grown_own hg hg2 (fun j hj hlt => by cases hj; omega)
   have hco3 := hgx.cell HCO.out (by simp)
   have hc23 := hgx.cell hc20 (by simp)
   clear hc20
   have hidx : ((P.orders.length : Int) - 1 - k).toNat = P.orders.length - 1 - k := by omega
   generalize hi : P.orders.length - 1 - k = i at *
   generalize (elTo P.orders P.orders.length m k).1 = L at *
   generalize (elTo P.orders P.orders.length m k).2 = M at *
   have ho70 : 2 ≤ gt P.orders i := ho7.1
   have ho71 : gt P.orders i ≤ 7 := ho7.2
   have HI := Lib.hid hi; clear hi ho7
   go_wp2
   go_roundw
   case rel => exact ⟨k + 1, by congr 1; omega, by rw [HSC.out], by omega, hgx, by rw [HSC.out]; exact hO2⟩
   case measure => simp [intOf]; omega
  ·have hke : k = P.orders.length := by omega
   subst hke
   go_wp2
   go_ret
   exact ⟨_, rfl, grown_trans hg0 hg, hO.weak (by have := HS.out; omega)⟩
end Go.Proofs.YtmjkoejegfjbbaaGreat
namespace Go.Proofs.YtmjkoejegfjbbaaGreat
open Go.RowKit
theorem step_app_one {α : Type} [Inhabited α] {El : (Nat → Prop) → World → Value → α → Prop} (hEl : RdOk El) (T E : Nat) (z : Value) (bytes : Nat) (hT : Tryz.prog.underlying T = some (.slice E))
  (hE : (Tryz.prog.info? E).map (fun i => (i.zero, i.size, i.bytes)) = some (some z, 1, bytes)) (hzs : z.cells.size = 1) (hbt : bytes ≤ 64)
  {ops : Array Oper} {o : Oper} {a : Act} {K : Act → World → Prop} {Q : Exit → Act → World → Prop} {Ex : Prop} {w : World} (hgd : o.guard = none) (s x : Operand)
  (ho : o.op = Op.call { callee := Callee.builtin Builtin.append, args := #[s, x], argTypes := #[T, T] }) (B : Nat) (w1 w2 : World) (v u : Value) (xs : List α) (y : α) (hs : a.eval s = v) (hown : SlO El E B w1 v xs)
  (hg : Ext w1 w2) (hu : El (From w1.heap.size) w2 u y) (hw : w = w2.alloc (.cells #[u] E)) (hx : a.eval x = .slice (some ⟨w2.heap.size, 0, none⟩) 1 1) (hlen : xs.length ≤ 1000000) (hbase : B ≤ w1.heap.size)
  (h : ∀ v' w', SlO El E B w' v' (xs ++ [y]) → w1.grownBy w' v.ownBlock → w2.grownBy w' v.ownBlock → K (a.put o.dst v') w') :
  if Region.wanted o (yielded ops a.tmps) = true then Oper.wp Tryz.prog o a w K Q else Ex := by
 subst hw
 obtain ⟨vs, G, hvl, hO, hG, hd, hEx⟩ := hown
 have hga : Ext w2 (w2.alloc (.cells #[u] E)) := World.grownBy_alloc _ _ _
 have hO2 : OwnV B E (w2.alloc (.cells #[u] E)) v vs := hO.kept (grown_trans hg hga) (by cases hv : v.ownBlock <;> simp)
 refine step_app T E z bytes hT hE hzs hbt hgd s x ho B v vs hs hO2 w2.heap.size u hx (by rw [World.cell?_alloc_at _ _ _ _ rfl]; rfl) (hEl.one hu) (by omega) (by have := hg.size; simp; omega) ?_
 intro v' w' h1 h2 hat
 have hvb : ∀ k, v.ownBlock = some k → B ≤ k ∧ k < w1.heap.size := hO.lt
 have hg2 : w2.grownBy w' v.ownBlock := grown_trans (grown_of_ext _ hga) h2
 have hg1 : w1.grownBy w' v.ownBlock := grown_trans (grown_of_ext _ hg) hg2
 have hv'b : ∀ k, v'.ownBlock = some k → v.ownBlock = some k ∨ w2.heap.size < k + 1 := by
  intro k hk
  rcases hat with h | h
  ·exact .inl (by rw [← h]; exact hk)
  ·rw [h] at hk
   have : (w2.alloc (.cells #[u] E)).heap.size = k := by simpa using hk
   simp at this
   exact .inr (by omega)
 have hsz2 := hg.size
 refine h v' w' ⟨vs ++ [u], fun i k => if i < xs.length then G i k ∧ k < w1.heap.size else w1.heap.size ≤ k ∧ k < w2.heap.size, by simp [hvl], h1, ?_, ?_, ?_⟩ hg1 hg2
 ·intro i k hi hk
  split at hk
  ·rename_i hlt
   obtain ⟨a1, a2, a3⟩ := hG i k hlt hk.1
   refine ⟨a1, fun hv' => ?_, Nat.lt_of_lt_of_le a3 hg1.size⟩
   rcases hv'b k hv' with h | h
   ·exact a2 h
   ·omega
  ·refine ⟨by omega, fun hv' => ?_, Nat.lt_of_lt_of_le hk.2 hg2.size⟩
   rcases hv'b k hv' with h | h
   ·have := hvb k h; omega
   ·omega
 ·intro i j k hi hj hk hk'
  simp only [List.length_append, List.length_singleton] at hi hj
  split at hk <;> split at hk'
  ·exact hd i j k (by assumption) (by assumption) hk.1 hk'.1
  ·omega
  ·omega
  ·omega
 ·intro i hi
  simp only [List.length_append, List.length_singleton] at hi
  by_cases hlt : i < xs.length
  ·rw [gt_append_left _ _ _ (by omega), gt_append_left _ _ _ hlt]
   simp only [if_pos hlt]
   exact hEl.mono (hEx i hlt) (fun k hk hkl => ⟨⟨hk, hkl⟩, Nat.lt_of_lt_of_le hkl hg1.size, hg1.block k hkl (fun e => (hG i k hlt hk).2.1 e.symm)⟩)
  ·have hi2 : i = xs.length := by omega
   subst hi2
   rw [gt_concat, ← hvl, gt_concat]
   simp only [hvl, Nat.lt_irrefl, if_false]
   exact hEl.mono hu (fun k hk hkl => ⟨⟨hk, hkl⟩, Nat.lt_of_lt_of_le hkl hg2.size, hg2.block k hkl (fun e => by
    have hk : w1.heap.size ≤ k := hk
    have := hvb k e.symm; omega)⟩)
theorem step_app_row {ops : Array Oper} {o : Oper} {a : Act} {K : Act → World → Prop} {Q : Exit → Act → World → Prop} {Ex : Prop} {w : World} (hgd : o.guard = none) (s x : Operand)
  (ho : o.op = Op.call { callee := Callee.builtin Builtin.append, args := #[s, x], argTypes := #[32, 32] }) (B : Nat) (w1 w2 : World) (v u : Value) (xs : List (List Int)) (y : List Int) (hs : a.eval s = v) (hown : RowsO B w1 v xs)
  (hg : Ext w1 w2) (hu : OwnIn (From w1.heap.size) w2 u y) (hw : w = w2.alloc (.cells #[u] 36)) (hx : a.eval x = .slice (some ⟨w2.heap.size, 0, none⟩) 1 1) (hlen : xs.length ≤ 1000000) (hbase : B ≤ w1.heap.size)
  (h : ∀ v' w', RowsO B w' v' (xs ++ [y]) → w1.grownBy w' v.ownBlock → w2.grownBy w' v.ownBlock → K (a.put o.dst v') w') :
  if Region.wanted o (yielded ops a.tmps) = true then Oper.wp Tryz.prog o a w K Q else Ex :=
 step_app_one rdOwn 32 36 (.slice none 0 0) 24 und_rows Tryz.infoRow rfl (by decide) hgd s x ho B w1 w2 v u xs y hs hown hg hu hw hx hlen hbase h
end Go.Proofs.YtmjkoejegfjbbaaGreat
namespace Go.Proofs.YtmjkoejegfjbbaaGreat
open Go.RowKit
/-! ### a row of bools of the call's own -/
theorem BOwn.ext0 {base : Nat} {w w' : World} {v : Value} {l : List Bool} (h : BOwn base w v l) (hg : Ext w w') : BOwn base w' v l :=
 h.kept hg (by cases hv : v.ownBlock <;> simp)
end Go.Proofs.YtmjkoejegfjbbaaGreat
namespace Go.Proofs.YtmjkoejegfjbbaaGreat
def invWord (w : List Int) : List Int := (w.map (fun l => -l)).reverse
def WordN (n : Nat) (w : List Int) : Prop := ∀ l ∈ w, (1 ≤ l ∧ l ≤ n) ∨ (-(n : Int) ≤ l ∧ l ≤ -1)
theorem WordN.nil (n : Nat) : WordN n [] := fun l h => by cases h
theorem WordN.app {n : Nat} {a b : List Int} (h : WordN n a) (k : WordN n b) : WordN n (a ++ b) := fun l hl => (List.mem_append.1 hl).elim (h l) (k l)
theorem WordN.rep {n k : Nat} (m : Nat) (hk : k < n) : WordN n (List.replicate m ((k : Int) + 1)) := fun l hl => by
 have := (List.mem_replicate.1 hl).2; omega
theorem WordN.nWord {n : Nat} (e : List Int) : ∀ k, k ≤ n → WordN n (nWord e k)
 | 0, _ => WordN.nil n
 | k + 1, h => (WordN.nWord e k (by omega)).app (WordN.rep _ (by omega))
theorem WordN.inv {n : Nat} {w : List Int} (h : WordN n w) : WordN n (invWord w) := fun l hl => by
 unfold invWord at hl
 rw [List.mem_reverse, List.mem_map] at hl
 obtain ⟨a, ha, rfl⟩ := hl
 have := h a ha
 omega
theorem invWord_len (w : List Int) : (invWord w).length = w.length := by unfold invWord; simp
def relPow (P : Pr) (i : Nat) : List Int := List.replicate (gt P.orders i).toNat ((i : Int) + 1) ++ invWord (nWord (gt P.powers i) P.orders.length)
def relCon (P : Pr) (i k : Nat) : List Int := [-((i : Int) + 1), (i : Int) + k + 2, (i : Int) + 1] ++ invWord (nWord (gt (gt P.conj i) k) P.orders.length)
def relPs (P : Pr) : Nat → List (List Int)
 | 0 => []
 | k + 1 => relPs P k ++ [relPow P k]
def relCs (P : Pr) (i : Nat) : Nat → List (List Int)
 | 0 => []
 | k + 1 => relCs P i k ++ [relCon P i k]
def relTo (P : Pr) : Nat → List (List Int)
 | 0 => relPs P P.orders.length
 | i + 1 => relTo P i ++ relCs P i (gt P.conj i).length
def relsP (P : Pr) : List (List Int) := relTo P P.orders.length
theorem relPs_len (P : Pr) (k : Nat) : (relPs P k).length = k := by
 induction k with
 | zero => rfl
 | succ k ih => rw [relPs, List.length_append, ih]; rfl
theorem relCs_len (P : Pr) (i k : Nat) : (relCs P i k).length = k := by
 induction k with
 | zero => rfl
 | succ k ih => rw [relCs, List.length_append, ih]; rfl
section
variable {Q : Pr} (G : Grp Q)
include G
end
theorem relPow_word {P : Pr} {i : Nat} (hi : i < P.orders.length) : WordN P.orders.length (relPow P i) :=
 (WordN.rep _ hi).app (WordN.nWord _ _ (Nat.le_refl _)).inv
theorem relCon_word {P : Pr} {i k : Nat} (hi : i + k + 1 < P.orders.length) : WordN P.orders.length (relCon P i k) :=
 WordN.app (fun l hl => by simp at hl; omega) (WordN.nWord _ _ (Nat.le_refl _)).inv
theorem relPs_word {P : Pr} : ∀ k, k ≤ P.orders.length → ∀ w ∈ relPs P k, WordN P.orders.length w
 | 0, _, w, h => by cases h
 | k + 1, hk, w, h => by
  rcases List.mem_append.1 h with h1 | h1
  ·exact relPs_word k (by omega) w h1
  ·rw [List.mem_singleton.1 h1]; exact relPow_word (by omega)
theorem relCs_word {P : Pr} {i : Nat} : ∀ k, i + k < P.orders.length → ∀ w ∈ relCs P i k, WordN P.orders.length w
 | 0, _, w, h => by cases h
 | k + 1, hk, w, h => by
  rcases List.mem_append.1 h with h1 | h1
  ·exact relCs_word k (by omega) w h1
  ·rw [List.mem_singleton.1 h1]; exact relCon_word (by omega)
end Go.Proofs.YtmjkoejegfjbbaaGreat
namespace Go.Proofs.YtmjkoejegfjbbaaGreat
open Go.RowKit
theorem abs_ok (a : Int) (w : World) (ha : -1000000 ≤ a ∧ a ≤ 1000000) : Calls Tryz.prog 281 #[.int .i64 a] w fun e w' => e = .returned (.int .i64 (if a < 0 then -a else a)) ∧ w = w' := by
 have e1 : IntKind.i64.wrap (-a) = -a := IntWalk.i64_in _ (by omega)
 go_enter Tryz.func281, Tryz.ntmps281
 obtain ⟨b, hb⟩ : ∃ b, b = (if a < 0 then -a else a) := ⟨_, rfl⟩
 rw [← hb]
 by_cases h0 : a < 0
 ·rw [if_pos h0] at hb
  have h1 : ¬ -a ≤ a := by omega
  have hmx : max a (-a) = -a := Int.max_eq_right (by omega)
  have HB := Lib.hid hb; clear hb
  go_wp2
  go_ret
  exact ⟨by rw [HB.out]; first | rfl | (show Ending.returned (.int .i64 (max a (-a))) = _; rw [hmx]), rfl⟩
 ·rw [if_neg h0] at hb
  have h1 : -a ≤ a := by omega
  have hmx : max a (-a) = a := Int.max_eq_left (by omega)
  have HB := Lib.hid hb; clear hb
  go_wp2
  go_ret
  exact ⟨by rw [HB.out]; first | rfl | (show Ending.returned (.int .i64 (max a (-a))) = _; rw [hmx]), rfl⟩
set_option maxHeartbeats 1000000 in
theorem normalWord_ok (w : World) (v : Value) (e : List Int) (S : Nat → Prop) (hv : Ints S w v e) (hn : e.length ≤ 6) (he : ∀ i, i < e.length → 0 ≤ gt e i ∧ gt e i ≤ 7) :
  Calls Tryz.prog 293 #[v] w (Ret w fun w' r => Own w.heap.size w' r (nWord e e.length)) := by
 obtain ⟨a, cap, rfl, _, _⟩ := hv.shape
 have hb : ∀ i, gt e i ≤ 7 := fun i => by
  by_cases h : i < e.length
  ·exact (he i h).2
  ·rw [gt_big (by omega)]; decide
 have HB := Lib.hid (And.intro hb he); clear hb he
 go_enter Tryz.func293, Tryz.ntmps293
 go_wp2
 go_loopw [3, 8] (fun ov iv wr => ∃ (i : Nat) (v3 : Value), v3 = ov ∧ iv = .int .i64 i ∧ i ≤ e.length ∧ Ext w wr ∧ Own w.heap.size wr v3 (nWord e i)) (fun _ iv _ => e.length - (intOf iv).toNat)
 case atStart => exact ⟨0, _, rfl, rfl, by omega, Ext.refl _, World.ownsRow_nil _ _ _ _⟩
 case round =>
  obtain ⟨i, v3, rfl, rfl, hi, hg, hO⟩ := hrel
  by_cases hlt : i < e.length
  ·have hlt' : (i : Int) < e.length := by omega
   obtain ⟨b, off, rfl, _, _, hc⟩ := Ints.at (hv.ext hg) i hlt
   obtain ⟨x, hx⟩ : ∃ x, x = (gt e i).toNat := ⟨_, rfl⟩
   have hx0 := HB.out.2 i hlt
   have hxe : gt e i = (x : Int) := by omega
   have hx7 : x ≤ 7 := by omega
   have hnw : nWord e (i + 1) = nWord e i ++ List.replicate x ((i : Int) + 1) := by rw [nWord, hx]
   have hwl := nWord_len HB.out.1 i
   rw [hxe] at hc
   have HX := Lib.hid (And.intro hnw hwl); clear hnw hwl hx0 hxe hx
   go_wp2
   clear hc
   have hO0 : Own w.heap.size wr v3 (nWord e i ++ List.replicate 0 ((i : Int) + 1)) := by simpa using hO
   clear hO
   obtain ⟨wo, hwo⟩ : ∃ wo : World, wo = wr := ⟨_, rfl⟩
   clear hwo
   go_loopw [3, 14] (fun ov kv wr => ∃ (k : Nat) (v4 : Value), v4 = ov ∧ kv = .int .i64 k ∧ k ≤ x ∧ Ext w wr ∧ Own w.heap.size wr v4 (nWord e i ++ List.replicate k ((i : Int) + 1))) (fun _ kv _ => x - (intOf kv).toNat)
   case atStart => exact ⟨0, _, rfl, rfl, by omega, hg, hO0⟩
   case round =>
    clear hO0 hg
    obtain ⟨k, v4, rfl, rfl, hk, hg, hO⟩ := hrel
    by_cases hltk : k < x
    ·have hltk' : (k : Int) < x := by omega
     have hlen : (nWord e i ++ List.replicate k ((i : Int) + 1)).length ≤ 1000 := by rw [List.length_append, List.length_replicate]; have := HX.out.2; omega
     have HL := Lib.hid hlen; clear hlen
     go_wp2_with (first | (at_builtin; refine wp_app_ints rfl _ _ rfl w.heap.size v4 _ rfl (hO.ext0 (World.grownBy_alloc _ _ _)) _ _ rfl Any (ints_lit wr _) (by have := HL.out; simp only [List.length_cons, List.length_nil]; omega) (by have := hg.size; simp; omega) ?_; intro v5 w5 hO5 hg5 _) | fail)
     have hg5' : wr.grownBy w5 v4.ownBlock := grown_trans (grown_of_ext _ (World.grownBy_alloc _ _ _)) hg5
     have hge : Ext w w5 := grown_own hg hg5' (fun b hb hlt => by have := (hO.lt b hb).1; omega)
     rw [List.append_assoc, ← List.replicate_succ'] at hO5
     clear hO hg5 hg5'
     go_roundw
     case rel => exact ⟨k + 1, v5, rfl, by go_num, by omega, hge, hO5⟩
     case measure => simp [intOf]; omega
    ·have hke : k = x := by omega
     subst hke
     rw [← HX.out.1] at hO
     go_wp2
     go_roundw
     case rel => exact ⟨i + 1, v4, rfl, by go_num, by omega, hg, hO⟩
     case measure => simp [intOf]; omega
  ·have hie : i = e.length := by omega
   subst hie
   go_wp2
   go_ret
   exact ⟨_, rfl, hg, hO⟩
end Go.Proofs.YtmjkoejegfjbbaaGreat
namespace Go.Proofs.YtmjkoejegfjbbaaGreat
open Go.RowKit
set_option maxHeartbeats 1000000 in
theorem l06Invert_ok (w : World) (v : Value) (l : List Int) (S : Nat → Prop) (hv : Ints S w v l) (hn : l.length ≤ 1000) (hb : ∀ i, i < l.length → -1000 ≤ gt l i ∧ gt l i ≤ 1000) :
  Calls Tryz.prog 283 #[v] w (Ret w fun w' r => Own w.heap.size w' r (invWord l)) := by
 obtain ⟨a, cap, rfl, _, _⟩ := hv.shape
 have HB := Lib.hid hb; clear hb
 go_enter Tryz.func283, Tryz.ntmps283
 go_wp2
 go_loopw [3, 4] (fun ov iv wr => ∃ (i : Nat) (v3 : Value), v3 = ov ∧ iv = .int .i64 ((i : Int) - 1) ∧ i ≤ l.length ∧ Ext w wr ∧ Own w.heap.size wr v3 (((l.drop i).map (fun x => -x)).reverse)) (fun _ iv _ => (intOf iv + 1).toNat)
 case atStart => exact ⟨l.length, _, rfl, by go_num, by omega, World.grownBy_alloc _ _ _, by rw [List.drop_length]; exact World.ownsRow_lit w #[] 0 (Nat.le_refl _) (by decide) rfl⟩
 case round =>
  obtain ⟨i, v3, rfl, rfl, hi, hg, hO⟩ := hrel
  obtain ⟨m, hm⟩ : ∃ m, m = ((l.drop i).map (fun x => -x)).reverse := ⟨_, rfl⟩
  have hml : m.length = l.length - i := by rw [hm]; simp
  rw [← hm] at hO
  by_cases hlt : 0 < i
  ·obtain ⟨j, rfl⟩ : ∃ j, i = j + 1 := ⟨i - 1, by omega⟩
   have hj : j < l.length := by omega
   have hj' : (j : Int) < l.length := by omega
   obtain ⟨b, off, rfl, _, _, hc⟩ := Ints.at (hv.ext hg) j hj
   have hx0 := HB.out j hj
   have e1 : IntKind.i64.wrap (-(gt l j)) = -(gt l j) := IntWalk.i64_in _ (by omega)
   have hnx : ((l.drop j).map (fun x => -x)).reverse = m ++ [-(gt l j)] := by
    rw [hm, List.drop_eq_getElem_cons hj, List.map_cons, List.reverse_cons, gt_eq l j hj]
   have e2 : (((j + 1 : Nat) : Int) - 1) = (j : Int) := by omega
   have HM := Lib.hid (And.intro hml hnx); clear hml hnx hm
   rw [e2]
   go_wp2_with (first | (at_builtin; refine wp_app_ints rfl _ _ rfl w.heap.size v3 _ rfl (hO.ext0 (World.grownBy_alloc _ _ _)) _ _ rfl Any (ints_lit wr _) (by have := HM.out.1; simp only [List.length_cons, List.length_nil]; omega) (by have := hg.size; simp; omega) ?_; intro v5 w5 hO5 hg5 _) | fail)
   have hg5' : wr.grownBy w5 v3.ownBlock := grown_trans (grown_of_ext _ (World.grownBy_alloc _ _ _)) hg5
   have hge : Ext w w5 := grown_own hg hg5' (fun b hb hlt => by have := (hO.lt b hb).1; omega)
   clear hO hg5 hg5' hc e1
   go_roundw
   case rel => exact ⟨j, v5, rfl, by go_num, by omega, hge, by rw [HM.out.2]; exact hO5⟩
   case measure => simp [intOf]
  ·have hie : i = 0 := by omega
   subst hie
   rw [hm] at hO
   clear hm hml
   go_wp2
   go_ret
   exact ⟨_, rfl, hg, by simpa [invWord] using hO⟩
end Go.Proofs.YtmjkoejegfjbbaaGreat
namespace Go.Proofs.YtmjkoejegfjbbaaGreat
open Go.RowKit
attribute [local go_sem ↓] Go.wp_at_zero Go.wp_at_succ
theorem l07Turn_ok (B0 : Nat) (w : World) (sb : Nat) (pv : Value) (P : Pr) (F : Nat → Prop) (hB0 : B0 ≤ w.heap.size) (hs : Src B0 w sb) (hp : PresV F w pv P) (hV : Valid P) :
  Calls Tryz.prog 147 #[.pointer (some ⟨sb, 0, none⟩), pv] w (Mut w (some sb) (DrawR B0 sb (PresA 7 w.heap.size))) :=
 Calls.mono (l07TurnL_ok B0 w sb pv P F hB0 hs hp hV) (fun _ _ ⟨v, h1, h2, ⟨vo, vp, vc, Q, h3, h4, h5, _⟩, h6⟩ => ⟨v, h1, h2, ⟨vo, vp, vc, Q, h3, h4, h5⟩, h6⟩)
end Go.Proofs.YtmjkoejegfjbbaaGreat
namespace Go.Proofs.YtmjkoejegfjbbaaGreat
theorem nodup_sub_len {α : Type} : ∀ (l m : List α), l.Nodup → (∀ x ∈ l, x ∈ m) → l.length ≤ m.length
 | [], m, _, _ => by simp
 | a :: l, m, hn, hs => by
  obtain ⟨m1, m2, rfl⟩ := List.append_of_mem (hs a (List.mem_cons_self ..))
  have hn' := List.nodup_cons.1 hn
  have := nodup_sub_len l (m1 ++ m2) hn'.2 (fun x hx => by
   have h1 := hs x (List.mem_cons_of_mem _ hx)
   rw [List.mem_append, List.mem_cons] at h1
   rw [List.mem_append]
   rcases h1 with h1 | h1 | h1
   ·exact .inl h1
   ·subst h1; exact absurd hx hn'.1
   ·exact .inr h1)
  simp only [List.length_append, List.length_cons] at *
  omega
end Go.Proofs.YtmjkoejegfjbbaaGreat
namespace Go.Proofs.YtmjkoejegfjbbaaGreat
open Go.RowKit
attribute [local go_sem ↓] Go.wp_at_zero Go.wp_at_succ
set_option maxRecDepth 100000 in
set_option maxHeartbeats 8000000 in
theorem l01From_ok (w : World) (cv : Value) (bs : List Int) (S : Nat → Prop) (hb : Bytes S w cv bs) :
  Calls Tryz.prog 112 #[cv] w (Ret w fun w' v => v = .pointer (some ⟨w.heap.size, 0, none⟩) ∧ Src (w.heap.size + 1) w' w.heap.size) := by
 obtain ⟨a, cap, rfl, _, hlen⟩ := Sl.shape hb
 have hbA := Box3.made w 210 (.slice a bs.length cap) (.int .i64 0) (.int .i64 76001)
 have hgA : Ext w (w.alloc (.cells #[.slice a bs.length cap, .int .i64 0, .int .i64 76001] 210)) := World.grownBy_alloc _ _ _
 go_enter Tryz.func112, Tryz.ntmps112
 go_wp2_with fail
 generalize w.alloc (.cells #[.slice a bs.length cap, .int .i64 0, .int .i64 76001] 210) = w0 at *
 go_loopw [4] (fun iv wr => ∃ (i seed : Nat), iv = .int .i64 i ∧ i ≤ bs.length ∧ seed < 2147483647 ∧ Ext w wr ∧ Box3 wr w.heap.size (.slice a bs.length cap) (.int .i64 0) (.int .i64 seed)) (fun iv _ => bs.length - (intOf iv).toNat)
 case atStart => exact ⟨0, 76001, rfl, by omega, by omega, hgA, hbA⟩
 case round =>
  clear hbA hgA
  obtain ⟨i, seed, rfl, hi, hs, hg, hB⟩ := hrel
  by_cases hlt : i < bs.length
  ·by_cases h64 : i < 64
   ·obtain ⟨b, off, rfl, hbS, hbl, hcb, hx0, hx1⟩ := Bytes.at hb i hlt
    have hcr := hg.cell hcb (by simp)
    generalize gt bs i = x at hcb hcr hx0 hx1
    have hli : (i : Int) < (bs.length : Nat) := by omega
    have h6i : (i : Int) < 64 := by omega
    obtain ⟨s2, hs2⟩ : ∃ s2 : Nat, ((seed : Int) * 71 + x) % 2147483647 = (s2 : Int) ∧ s2 < 2147483647 := ⟨(((seed : Int) * 71 + x) % 2147483647).toNat, by omega, by omega⟩
    have hBs := (hB.put (.int .i64 (s2 : Nat))).2.2
    have hgs := grown_set wr w.heap.size 2 (.int .i64 (s2 : Nat))
    have hgn : Ext w (wr.setCell ⟨w.heap.size, 2, none⟩ (.int .i64 (s2 : Nat))) := grown_own hg hgs (fun j hj hlt => by have := Option.some.inj hj; omega)
    have hBd := hBs.ext (grown_drew (wr.setCell ⟨w.heap.size, 2, none⟩ (.int .i64 (s2 : Nat))) none)
    have hgd := grown_trans hgn (grown_drew (wr.setCell ⟨w.heap.size, 2, none⟩ (.int .i64 (s2 : Nat))) none)
    have hw1 : IntKind.i64.wrap ((seed : Int) * 71) = (seed : Int) * 71 := IntWalk.i64_in _ (by omega)
    have hw2 : IntKind.i64.wrap ((seed : Int) * 71 + x) = (seed : Int) * 71 + x := IntWalk.i64_in _ (by omega)
    have hw0 : IntKind.i64.wrap x = x := IntWalk.i64_in _ (by omega)
    have hrem : ((seed : Int) * 71 + x).tmod 2147483647 = (s2 : Int) := by rw [Int.tmod_eq_emod_of_nonneg (by omega)]; exact hs2.1
    obtain ⟨h0, h1, h2, h3, h4⟩ := id hB
    have c0 : wr.drew.cell? ⟨w.heap.size, 2, none⟩ = some (.int .i64 seed) := h3
    have c1 : wr.drew.cell? ⟨b, off + i, none⟩ = some (.int .u8 x) := hcr
    have c2 : w.heap.size < wr.drew.heap.size := h0
    have c3 := h4
    have HQ := Lib.hid (And.intro hgd (And.intro hBd (And.intro hs2.2 hb))); clear hgd hBd hs2 hb hgn hgs hBs hB hg h0 h1 h2 h3 hcb hcr
    go_wp2
    go_still_tail 15, (by kernel_rfl)
    change wpList _ _ _ _ _ wr.drew
    go_wp2
    go_roundw
    case rel => exact ⟨i + 1, s2, by go_num, by omega, HQ.out.2.2.1, HQ.out.1, HQ.out.2.1⟩
    case measure => simp [intOf]; omega
   ·have hli : (i : Int) < (bs.length : Nat) := by omega
    have h6i : ¬ (i : Int) < 64 := by omega
    have HQ := Lib.hid (And.intro hg hB); clear hg hB
    go_wp2
    go_ret
    exact ⟨_, rfl, HQ.out.1, rfl, _, 0, seed, bs, HQ.out.2, Bytes.mono hb (fun k _ hlt => ⟨⟨by omega, by omega⟩, Nat.lt_of_lt_of_le hlt HQ.out.1.size, HQ.out.1.block k hlt (by simp)⟩), by omega, hs, by omega⟩
  ·have hli : ¬ (i : Int) < (bs.length : Nat) := by omega
   have HQ := Lib.hid (And.intro hg hB); clear hg hB
   go_wp2
   go_ret
   exact ⟨_, rfl, HQ.out.1, rfl, _, 0, seed, bs, HQ.out.2, Bytes.mono hb (fun k _ hlt => ⟨⟨by omega, by omega⟩, Nat.lt_of_lt_of_le hlt HQ.out.1.size, HQ.out.1.block k hlt (by simp)⟩), by omega, hs, by omega⟩
end Go.Proofs.YtmjkoejegfjbbaaGreat
namespace Go.Proofs.YtmjkoejegfjbbaaGreat
section
variable {α : Type} {m : α → α → α} {e : α} {P : Pr} {h : Nat → α}
theorem npr_skip {x : List Int} {i f : Nat} (hx : ∀ k, k < i → gt x k = 0) : npr m h x 0 e (i + f) = npr m h x i e f := by
 unfold npr
 rw [acc_split, acc_zero _ x 0 e i (fun l _ b => hx l (by omega)), Nat.zero_add]
theorem npr_skip2 {x : List Int} {i j f : Nat} (hij : i ≤ j) (hx : ∀ k, i ≤ k → k < j → gt x k = 0) : npr m h x i e ((j - i) + f) = npr m h x j e f := by
 unfold npr
 rw [acc_split, acc_zero _ x i e (j - i) (fun l a b => hx l a (by omega)), show i + (j - i) = j by omega]
theorem npr_unit (M : MonOn (fun _ : α => True) m e) {n i J : Nat} (hi : i ≤ J) (hJ : J < n) : npr m h (unitV n J) i e (n - i) = h J := by
 rw [npr_three M hi hJ (fun _ _ _ => trivial), gt_unit n J J hJ, if_pos rfl]
 have e1 : npr m h (unitV n J) i e (J - i) = e := acc_zero _ _ _ _ _ (fun l a b => by rw [gt_unit n J l (by omega), if_neg (by omega)])
 have e2 : npr m h (unitV n J) (J + 1) e (n - (J + 1)) = e := acc_zero _ _ _ _ _ (fun l a b => by rw [gt_unit n J l (by omega), if_neg (by omega)])
 rw [e1, e2, M.er _ trivial]
 show m e (m e (h J)) = h J
 rw [M.el _ trivial, M.el _ trivial]
theorem pow_thru (M : MonOn (fun _ : α => True) m e) {a b c : α} (H : m a b = m b c) (k : Nat) : m (iter k (fun y => m y a) e) b = m b (iter k (fun y => m y c) e) := by
 induction k with
 | zero => show m e b = m b e; rw [M.el _ trivial, M.er _ trivial]
 | succ k ih =>
  show m (m (iter k (fun y => m y a) e) a) b = m b (m (iter k (fun y => m y c) e) c)
  rw [M.ass _ _ _ trivial trivial trivial, H, ← M.ass _ _ _ trivial trivial trivial, ih, M.ass _ _ _ trivial trivial trivial]
theorem braid (M : MonOn (fun _ : α => True) m e) {a b c x y z z' : α} (k1 : m a c = m c x) (k2 : m b c = m c y) (k3 : m a b = m b z) (k4 : m z c = m c z') : m c (m x y) = m c (m y z') := by
 have A := fun x y z => M.ass x y z trivial trivial trivial
 calc m c (m x y) = m (m c x) y := (A c x y).symm
  _ = m (m a c) y := by rw [k1]
  _ = m a (m c y) := A a c y
  _ = m a (m b c) := by rw [k2]
  _ = m (m a b) c := (A a b c).symm
  _ = m (m b z) c := by rw [k3]
  _ = m b (m z c) := A b z c
  _ = m b (m c z') := by rw [k4]
  _ = m (m b c) z' := (A b c z').symm
  _ = m (m c y) z' := by rw [k2]
  _ = m c (m y z') := A c y z'
theorem real_level (hP : Valid P) (M : MonOn (fun _ : α => True) m e) (H : Holds P (fun _ => True) m e h 0)
  (canc : ∀ j, j < P.orders.length → ∀ a b, m (h j) a = m (h j) b → a = b)
  (inj : ∀ x y, Vec P.orders x → Vec P.orders y → npr m h x 0 e P.orders.length = npr m h y 0 e P.orders.length → x = y)
  {f i : Nat} (hi : i + (f + 1) = P.orders.length) (L : Lvl P f (i + 1)) : RLevel P f i := by
 have hin : i < P.orders.length := by omega
 have hf : P.orders.length - (i + 1) = f := by omega
 have hT : ∀ x y, T P (i + 1) x → T P (i + 1) y → npr m h x (i + 1) e f = npr m h y (i + 1) e f → x = y := fun x y hx hy he => by
  refine inj x y hx.1 hy.1 ?_
  have hn : P.orders.length = (i + 1) + f := by omega
  rw [hn, npr_skip (fun k hk => hx.2 k hk), npr_skip (fun k hk => hy.2 k hk), he]
 have vd : ∀ A B, Vec P.orders A → Vec P.orders B → npr m h (rAt P f (i + 1) A B) (i + 1) e f = m (npr m h A (i + 1) e f) (npr m h B (i + 1) e f) := vd_at hP M f (i + 1) (by omega) (H.up (by omega))
 have vi : ∀ x, m (npr m h x (i + 1) e f) (h i) = m (h i) (npr m h (rImage P f i x) (i + 1) e f) := vd_image hP M hi (H.up (by omega)) vd
 have np : ∀ J, i ≤ J → J < P.orders.length → npr m h (gt P.powers J) (i + 1) e f = iter (gt P.orders J).toNat (fun y => m y (h J)) e := fun J a b => by
  rw [H.pw J (by omega) b]
  have e1 : f = (J + 1 - (i + 1)) + (P.orders.length - (J + 1)) := by omega
  rw [e1, npr_skip2 (by omega) (fun k _ hk => (hP.pv J b).2 k (by omega))]
 have nu : ∀ J, i < J → J < P.orders.length → npr m h (unitV P.orders.length J) (i + 1) e f = h J := fun J a b => by
  have := npr_unit (h := h) M (n := P.orders.length) (i := i + 1) (J := J) (by omega) b
  rwa [hf] at this
 have cj : ∀ J K, i ≤ J → J < K → K < P.orders.length → m (h K) (h J) = m (h J) (npr m h (gt (gt P.conj J) (K - J - 1)) (i + 1) e f) := fun J K a b c => by
  rw [H.cj J K (by omega) b c]
  have e1 : f = (J + 1 - (i + 1)) + (P.orders.length - (J + 1)) := by omega
  rw [e1, npr_skip2 (by omega) (fun k _ hk => (cj_T hP b c).2 k (by omega))]
 have hc : ∀ J, i < J → J < P.orders.length → T P (i + 1) (gt (gt P.conj i) (J - i - 1)) := fun J a b => cj_T hP a b
 have hpow : ∀ x, Vec P.orders x → ∀ k, Vec P.orders (iter k (fun y => rAt P f (i + 1) y x) (zeros P.orders.length)) ∧ npr m h (iter k (fun y => rAt P f (i + 1) y x) (zeros P.orders.length)) (i + 1) e f = iter k (fun y => m y (npr m h x (i + 1) e f)) e := fun x hx k => by
  induction k with
  | zero => exact ⟨zeros_vec hP, acc_zero _ _ _ _ _ (fun j _ _ => gt_replicate _ _)⟩
  | succ k ih =>
   refine ⟨rAt_vec hP f (i + 1) _ _ (by omega) ih.1 hx, ?_⟩
   show npr m h (rAt P f (i + 1) _ x) (i + 1) e f = m _ _
   rw [vd _ _ ih.1 hx, ih.2]
 have hpT : ∀ x, T P (i + 1) x → ∀ k, T P (i + 1) (iter k (fun y => rAt P f (i + 1) y x) (zeros P.orders.length)) := fun x hx k => iter_inv (T P (i + 1)) _ (fun y hy => L.grp.cl _ _ hy hx) _ _ (T.zeros hP _)
 have him : ∀ x k, m (npr m h x (i + 1) e f) (iter k (fun y => m y (h i)) e) = m (iter k (fun y => m y (h i)) e) (npr m h (iter k (fun x => rImage P f i x) x) (i + 1) e f) := fun x k => by
  induction k with
  | zero =>
   show m (npr m h x (i + 1) e f) e = m e (npr m h x (i + 1) e f)
   rw [M.er _ trivial, M.el _ trivial]
  | succ k ih =>
   show m _ (m (iter k (fun y => m y (h i)) e) (h i)) = m (m (iter k (fun y => m y (h i)) e) (h i)) (npr m h (rImage P f i (iter k (fun x => rImage P f i x) x)) (i + 1) e f)
   rw [← M.ass _ _ _ trivial trivial trivial, ih, M.ass _ _ _ trivial trivial trivial, vi, M.ass _ _ _ trivial trivial trivial]
 have hiT : ∀ x, T P (i + 1) x → ∀ k, T P (i + 1) (iter k (fun x => rImage P f i x) x) := fun x hx k => iter_inv (T P (i + 1)) _ (fun y _ => rImage_T hP hi y) _ _ hx
 refine ⟨fun J a b => ?_, fun J K a b c => ?_, ?_, fun J a b => ?_⟩
 ·show rRep (rAt P f (i + 1)) (zeros P.orders.length) (gt (gt P.conj i) (J - i - 1)) (gt P.orders J).toNat = rImage P f i (gt P.powers J)
  rw [L.rRep_eq (hc J a b)]
  refine hT _ _ (hpT _ (hc J a b) _) (rImage_T hP hi _) (canc i hin _ _ ?_)
  rw [(hpow _ (hc J a b).1 _).2, ← vi, np J (by omega) b]
  exact (pow_thru M (cj i J (Nat.le_refl _) a b) _).symm
 ·have tK := hc K (by omega) c
  have tJ := hc J a (by omega)
  have tI := rImage_T hP hi (gt (gt P.conj J) (K - J - 1))
  refine hT _ _ (L.grp.cl _ _ tK tJ) (L.grp.cl _ _ tJ tI) (canc i hin _ _ ?_)
  rw [vd _ _ tK.1 tJ.1, vd _ _ tJ.1 tI.1]
  exact braid M (cj i K (Nat.le_refl _) (by omega) c) (cj i J (Nat.le_refl _) a (by omega)) (cj J K (by omega) b c) (vi _)
 ·refine hT _ _ (rImage_T hP hi _) (pw_T hP hin) (canc i hin _ _ ?_)
  rw [← vi, np i (Nat.le_refl _) hin]
  exact pow_thru M rfl _
 ·have tP := pw_T hP hin
  have tU := T.unit hP (i := i + 1) (j := J) (by omega) b
  refine hT _ _ (L.grp.cl _ _ tP (hiT _ tU _)) (L.grp.cl _ _ tU tP) ?_
  rw [vd _ _ tP.1 (hiT _ tU _).1, vd _ _ tU.1 tP.1, np i (Nat.le_refl _) hin, him]
theorem real_all (hP : Valid P) (M : MonOn (fun _ : α => True) m e) (H : Holds P (fun _ => True) m e h 0)
  (canc : ∀ j, j < P.orders.length → ∀ a b, m (h j) a = m (h j) b → a = b)
  (inj : ∀ x y, Vec P.orders x → Vec P.orders y → npr m h x 0 e P.orders.length = npr m h y 0 e P.orders.length → x = y) :
  ∀ f k, k + f = P.orders.length → ∀ j, k ≤ j → j < P.orders.length → RLevel P (P.orders.length - 1 - j) j
 | 0, k, hk, j, a, b => by omega
 | f + 1, k, hk, j, a, b => by
  by_cases hjk : j = k
  ·subst hjk
   have L := lvl_of_R hP f (j + 1) (by omega) (fun q a' b' => real_all hP M H canc inj f (j + 1) (by omega) q a' b')
   have e2 : P.orders.length - 1 - j = f := by omega
   rw [e2]; exact real_level hP M H canc inj hk L
  ·exact real_all hP M H canc inj f (k + 1) (by omega) j (by omega) b
open Classical in
theorem real_cons (hP : Valid P) (M : MonOn (fun _ : α => True) m e) (H : Holds P (fun _ => True) m e h 0)
  (canc : ∀ j, j < P.orders.length → ∀ a b, m (h j) a = m (h j) b → a = b)
  (inj : ∀ x y, Vec P.orders x → Vec P.orders y → npr m h x 0 e P.orders.length = npr m h y 0 e P.orders.length → x = y) : rconsB P = true := by
 unfold rconsB
 exact decide_eq_true ⟨hP, fun k hk => real_all hP M H canc inj P.orders.length 0 (by omega) k (by omega) hk⟩
/-! ### words -/
def letW (h hi : Nat → α) (l : Int) : α := if l < 0 then hi (-l - 1).toNat else h (l - 1).toNat
def evW (m : α → α → α) (e : α) (h hi : Nat → α) (w : List Int) : α := w.foldl (fun y l => m y (letW h hi l)) e
theorem foldl_out (M : MonOn (fun _ : α => True) m e) (g : Int → α) : ∀ (v : List Int) (y : α), v.foldl (fun y l => m y (g l)) y = m y (v.foldl (fun y l => m y (g l)) e)
 | [], y => (M.er _ trivial).symm
 | l :: v, y => by
  rw [List.foldl_cons, List.foldl_cons, foldl_out M g v (m y (g l)), foldl_out M g v (m e (g l)), M.el _ trivial, M.ass _ _ _ trivial trivial trivial]
theorem evW_app (M : MonOn (fun _ : α => True) m e) {hi : Nat → α} (w v : List Int) : evW m e h hi (w ++ v) = m (evW m e h hi w) (evW m e h hi v) := by
 unfold evW
 rw [List.foldl_append, foldl_out M]
theorem evW_one (M : MonOn (fun _ : α => True) m e) {hi : Nat → α} (l : Int) : evW m e h hi [l] = letW h hi l := by
 unfold evW
 rw [List.foldl_cons, List.foldl_nil, M.el _ trivial]
theorem evW_rep (M : MonOn (fun _ : α => True) m e) {hi : Nat → α} (i k : Nat) : evW m e h hi (List.replicate k ((i : Int) + 1)) = iter k (fun y => m y (h i)) e := by
 induction k with
 | zero => rfl
 | succ k ih =>
  rw [List.replicate_succ', evW_app M, ih, evW_one M]
  unfold letW
  rw [if_neg (by omega), show ((i : Int) + 1 - 1).toNat = i by omega]; rfl
theorem evW_nWord (M : MonOn (fun _ : α => True) m e) {hi : Nat → α} (x : List Int) : ∀ k, evW m e h hi (nWord x k) = npr m h x 0 e k
 | 0 => rfl
 | k + 1 => by
  rw [nWord, evW_app M, evW_nWord M x k, evW_rep M]
  show m (npr m h x 0 e k) _ = iter (gt x (0 + k)).toNat (fun y => m y (h (0 + k))) (npr m h x 0 e k)
  rw [Nat.zero_add]
  exact (M.pow_out (h := h k) trivial trivial _).symm
theorem invWord_cons (l : Int) (w : List Int) : invWord (l :: w) = invWord w ++ [-l] := by unfold invWord; simp
theorem invWord_inv (w : List Int) : invWord (invWord w) = w := by
 unfold invWord
 rw [List.map_reverse, List.reverse_reverse, List.map_map]
 have : ((fun l : Int => -l) ∘ fun l => -l) = id := by funext l; simp
 rw [this, List.map_id]
theorem letW_inv {hi : Nat → α} {n : Nat} (h1 : ∀ j, j < n → m (h j) (hi j) = e) (h2 : ∀ j, j < n → m (hi j) (h j) = e) {l : Int} (hl : (1 ≤ l ∧ l ≤ n) ∨ (-(n : Int) ≤ l ∧ l ≤ -1)) : m (letW h hi l) (letW h hi (-l)) = e := by
 unfold letW
 rcases hl with hl | hl
 ·rw [if_neg (by omega), if_pos (by omega), show (- -l - 1).toNat = (l - 1).toNat by omega]; exact h1 _ (by omega)
 ·rw [if_pos (by omega), if_neg (by omega)]; exact h2 _ (by omega)
theorem evW_inv (M : MonOn (fun _ : α => True) m e) {hi : Nat → α} {n : Nat} (h1 : ∀ j, j < n → m (h j) (hi j) = e) (h2 : ∀ j, j < n → m (hi j) (h j) = e) : ∀ w, WordN n w → m (evW m e h hi w) (evW m e h hi (invWord w)) = e
 | [], _ => M.el _ trivial
 | l :: w, hw => by
  have ih := evW_inv M h1 h2 w (fun x hx => hw x (List.mem_cons_of_mem _ hx))
  have hl := letW_inv (m := m) (e := e) h1 h2 (hw l (List.mem_cons_self ..))
  have A := fun x y z => M.ass x y z trivial trivial trivial
  have e1 : evW m e h hi (l :: w) = m (letW h hi l) (evW m e h hi w) := by
   rw [show l :: w = [l] ++ w from rfl, evW_app M, evW_one M]
  rw [invWord_cons, evW_app M, evW_one M, e1, A, ← A (evW m e h hi w), ih, M.el _ trivial, hl]
theorem rel_eq (M : MonOn (fun _ : α => True) m e) {hi : Nat → α} {n : Nat} (h1 : ∀ j, j < n → m (h j) (hi j) = e) (h2 : ∀ j, j < n → m (hi j) (h j) = e) {w v : List Int} (hv : WordN n v) (hr : evW m e h hi (w ++ invWord v) = e) : evW m e h hi w = evW m e h hi v := by
 rw [evW_app M] at hr
 have k := evW_inv M h1 h2 (invWord v) hv.inv
 rw [invWord_inv] at k
 have A := fun x y z => M.ass x y z trivial trivial trivial
 calc evW m e h hi w = m (evW m e h hi w) (m (evW m e h hi (invWord v)) (evW m e h hi v)) := by rw [k, M.er _ trivial]
  _ = m (m (evW m e h hi w) (evW m e h hi (invWord v))) (evW m e h hi v) := (A _ _ _).symm
  _ = evW m e h hi v := by rw [hr, M.el _ trivial]
end
theorem relPs_mem {P : Pr} {i : Nat} : ∀ k, i < k → relPow P i ∈ relPs P k
 | k + 1, h => by
  rcases Nat.lt_succ_iff_lt_or_eq.1 h with h1 | h1
  ·exact List.mem_append_left _ (relPs_mem k h1)
  ·rw [h1]; exact List.mem_append_right _ (List.mem_singleton.2 rfl)
theorem relCs_mem {P : Pr} {i j : Nat} : ∀ k, j < k → relCon P i j ∈ relCs P i k
 | k + 1, h => by
  rcases Nat.lt_succ_iff_lt_or_eq.1 h with h1 | h1
  ·exact List.mem_append_left _ (relCs_mem k h1)
  ·rw [h1]; exact List.mem_append_right _ (List.mem_singleton.2 rfl)
theorem relTo_pow {P : Pr} {i : Nat} (hi : i < P.orders.length) : ∀ k, relPow P i ∈ relTo P k
 | 0 => relPs_mem _ hi
 | k + 1 => List.mem_append_left _ (relTo_pow hi k)
theorem relTo_con {P : Pr} {i j : Nat} (hj : j < (gt P.conj i).length) : ∀ k, i < k → relCon P i j ∈ relTo P k
 | k + 1, h => by
  rcases Nat.lt_succ_iff_lt_or_eq.1 h with h1 | h1
  ·exact List.mem_append_left _ (relTo_con hj k h1)
  ·rw [← h1]; exact List.mem_append_right _ (relCs_mem _ hj)
theorem relTo_wd {P : Pr} (hP : Valid P) : ∀ i, i ≤ P.orders.length → ∀ w ∈ relTo P i, WordN P.orders.length w
 | 0, _, w, h => relPs_word _ (Nat.le_refl _) w h
 | i + 1, hi, w, h => by
  rcases List.mem_append.1 h with h1 | h1
  ·exact relTo_wd hP i (by omega) w h1
  ·exact relCs_word (i := i) _ (by rw [(hP.cv i (by omega)).1]; omega) w h1
theorem relsP_word {P : Pr} (hP : Valid P) : ∀ w ∈ relsP P, WordN P.orders.length w := relTo_wd hP _ (Nat.le_refl _)
theorem holds_of {α : Type} {m : α → α → α} {e : α} {P : Pr} {h hi : Nat → α} (hP : Valid P) (M : MonOn (fun _ : α => True) m e) (h1 : ∀ j, j < P.orders.length → m (h j) (hi j) = e) (h2 : ∀ j, j < P.orders.length → m (hi j) (h j) = e)
  (hr : ∀ w ∈ relsP P, evW m e h hi w = e) : Holds P (fun _ => True) m e h 0 := by
 refine ⟨fun _ _ _ => trivial, fun j _ b => ?_, fun j k _ b c => ?_⟩
 ·have k1 := rel_eq M h1 h2 (WordN.nWord (gt P.powers j) _ (Nat.le_refl _)) (hr _ (relTo_pow b _))
  rw [evW_rep M, evW_nWord M] at k1
  rw [k1]
  have e1 : P.orders.length = (j + 1) + (P.orders.length - (j + 1)) := by omega
  have e2 := npr_skip (m := m) (h := h) (e := e) (x := gt P.powers j) (i := j + 1) (f := P.orders.length - (j + 1)) (fun k hk => (hP.pv j b).2 k (by omega))
  rw [← e1] at e2; exact e2
 ·have hk : k - j - 1 < (gt P.conj j).length := by rw [(hP.cv j (by omega)).1]; omega
  have k1 := rel_eq M h1 h2 (WordN.nWord (gt (gt P.conj j) (k - j - 1)) _ (Nat.le_refl _)) (hr _ (relTo_con hk _ (by omega)))
  rw [evW_nWord M] at k1
  have e3 : evW m e h hi [-((j : Int) + 1), (j : Int) + ((k - j - 1 : Nat) : Int) + 2, (j : Int) + 1] = m (m (hi j) (h k)) (h j) := by
   unfold evW
   rw [List.foldl_cons, List.foldl_cons, List.foldl_cons, List.foldl_nil, M.el _ trivial]
   unfold letW
   rw [if_pos (by omega), if_neg (by omega), if_neg (by omega), show (- -((j : Int) + 1) - 1).toNat = j by omega, show ((j : Int) + ((k - j - 1 : Nat) : Int) + 2 - 1).toNat = k by omega, show ((j : Int) + 1 - 1).toNat = j by omega]
  rw [e3] at k1
  have e1 : P.orders.length = (j + 1) + (P.orders.length - (j + 1)) := by omega
  have e2 := npr_skip (m := m) (h := h) (e := e) (x := gt (gt P.conj j) (k - j - 1)) (i := j + 1) (f := P.orders.length - (j + 1)) (fun l hl => (cj_T hP b c).2 l (by omega))
  rw [← e1] at e2
  rw [← e2, ← k1]
  have A := fun x y z => M.ass x y z trivial trivial trivial
  rw [← A, ← A, h1 j (by omega), M.el _ trivial]
/-! ### bijections -/
def BijL (N : Nat) (a : List Int) : Prop := a.length = N ∧ (∀ t, t < N → 0 ≤ gt a t ∧ gt a t < N) ∧ ∀ s t, s < N → t < N → gt a s = gt a t → s = t
def aft (a b : List Int) : List Int := a.map (fun x => gt b x.toNat)
def bak (a : List Int) : List Int := (List.range a.length).map (fun t : Nat => ((a.findIdx (fun x => x == (t : Int)) : Nat) : Int))
def selfL (N : Nat) : List Int := (List.range N).map (fun t : Nat => (t : Int))
def evB (N : Nat) (L : List (List Int)) (w : List Int) : Nat → List Int
 | 0 => selfL N
 | k + 1 => aft (evB N L w k) (if gt w k < 0 then bak (gt L (-(gt w k) - 1).toNat) else gt L (gt w k - 1).toNat)
def Rch (L : List (List Int)) (t : Nat) : Prop := ∀ S : Nat → Prop, S 0 → (∀ s b, S s → b ∈ L → S (gt b s).toNat) → S t
def RealB (P : Pr) (L : List (List Int)) : Prop := L.length = P.orders.length ∧ (∀ b ∈ L, BijL (ordP P).toNat b) ∧ (∀ w ∈ relsP P, evB (ordP P).toNat L w w.length = selfL (ordP P).toNat) ∧ ∀ t, t < (ordP P).toNat → Rch L t
theorem surj_inj {N : Nat} (F : Nat → Nat) (hs : ∀ s, s < N → ∃ t, t < N ∧ F t = s) {a b : Nat} (ha : a < N) (hb : b < N) (he : F a = F b) : a = b := by
 rcases Decidable.em (a = b) with h | hne
 ·exact h
 ·exfalso
  have hm : b ∈ List.range N := List.mem_range.2 hb
  have h1 := nodup_sub_len (List.range N) (((List.range N).erase b).map F) List.nodup_range (fun s hs' => by
   obtain ⟨t, ht, rfl⟩ := hs s (List.mem_range.1 hs')
   by_cases htb : t = b
   ·subst htb
    exact List.mem_map.2 ⟨a, (List.mem_erase_of_ne hne).2 (List.mem_range.2 ha), he⟩
   ·exact List.mem_map.2 ⟨t, (List.mem_erase_of_ne htb).2 (List.mem_range.2 ht), rfl⟩)
  rw [List.length_map, List.length_erase_of_mem hm, List.length_range] at h1
  omega
theorem inj_surj {N : Nat} (F : Nat → Nat) (hF : ∀ t, t < N → F t < N) (hi : ∀ s t, s < N → t < N → F s = F t → s = t) (s : Nat) (hs : s < N) : ∃ t, t < N ∧ F t = s := by
 rcases Classical.em (∃ t, t < N ∧ F t = s) with h | hne
 ·exact h
 ·exfalso
  have hn : ((List.range N).map F).Nodup := by
   rw [List.nodup_iff_pairwise_ne, List.pairwise_map]
   refine List.Pairwise.imp_of_mem ?_ (List.nodup_iff_pairwise_ne.1 (List.nodup_range (n := N)))
   intro x y hx hy hxy he
   exact hxy (hi x y (List.mem_range.1 hx) (List.mem_range.1 hy) he)
  have h1 := nodup_sub_len _ ((List.range N).erase s) hn (fun x hx => by
   obtain ⟨t, ht, rfl⟩ := List.mem_map.1 hx
   have ht := List.mem_range.1 ht
   exact (List.mem_erase_of_ne (fun e => hne ⟨t, ht, e⟩)).2 (List.mem_range.2 (hF t ht)))
  rw [List.length_map, List.length_erase_of_mem (List.mem_range.2 hs), List.length_range] at h1
  omega
theorem gt_range {n t : Nat} (h : t < n) : gt (List.range n) t = t := by simp [gt, h]
theorem gt_getElem {l : List Int} {i : Nat} (h : i < l.length) : gt l i = l[i] := by simp [gt, List.getD_eq_getElem?_getD, List.getElem?_eq_getElem h]
theorem selfL_len (N : Nat) : (selfL N).length = N := by unfold selfL; rw [List.length_map, List.length_range]
theorem gt_selfL {N t : Nat} (h : t < N) : gt (selfL N) t = (t : Int) := by
 unfold selfL
 rw [gt_map _ _ _ (by rw [List.length_range]; exact h)]
 simp [gt, h]
theorem aft_len (a b : List Int) : (aft a b).length = a.length := by unfold aft; rw [List.length_map]
theorem gt_aft {a b : List Int} {t : Nat} (h : t < a.length) : gt (aft a b) t = gt b (gt a t).toNat := by unfold aft; rw [gt_map _ _ _ h]
theorem bak_len (a : List Int) : (bak a).length = a.length := by unfold bak; rw [List.length_map, List.length_range]
theorem BijL.sur {N : Nat} {a : List Int} (h : BijL N a) (s : Nat) (hs : s < N) : ∃ t, t < N ∧ gt a t = (s : Int) := by
 obtain ⟨t, ht, e⟩ := inj_surj (fun t => (gt a t).toNat) (fun t ht => by have := h.2.1 t ht; show (gt a t).toNat < N; omega) (fun s t hs ht e => h.2.2 s t hs ht (by
  have h1 := h.2.1 s hs
  have h2 := h.2.1 t ht
  have e : (gt a s).toNat = (gt a t).toNat := e
  omega)) s hs
 exact ⟨t, ht, by have := h.2.1 t ht; have e : (gt a t).toNat = s := e; omega⟩
theorem gt_bak {N : Nat} {a : List Int} (h : BijL N a) {t : Nat} (ht : t < N) : gt (bak a) (gt a t).toNat = (t : Int) := by
 have h1 := h.2.1 t ht
 have hl := h.1
 unfold bak
 rw [gt_map _ _ _ (by rw [List.length_range]; omega)]
 have e1 : gt (List.range a.length) (gt a t).toNat = (gt a t).toNat := gt_range (by omega)
 rw [e1]
 have hx : a.findIdx (fun x => x == (((gt a t).toNat : Nat) : Int)) < a.length := List.findIdx_lt_length.2 ⟨gt a t, gtMem (by omega), by simp; omega⟩
 have hp := List.findIdx_getElem (w := hx)
 have hp2 : gt a (a.findIdx (fun x => x == (((gt a t).toNat : Nat) : Int))) = gt a t := by
  have e2 := gt_getElem hx
  rw [e2]
  have := eq_of_beq hp
  omega
 rw [h.2.2 _ t (by omega) ht hp2]
theorem BijL.self (N : Nat) : BijL N (selfL N) :=
 ⟨selfL_len N, fun t ht => by rw [gt_selfL ht]; omega, fun s t hs ht e => by rw [gt_selfL hs, gt_selfL ht] at e; omega⟩
theorem BijL.aft {N : Nat} {a b : List Int} (ha : BijL N a) (hb : BijL N b) : BijL N (aft a b) := by
 refine ⟨by rw [aft_len]; exact ha.1, fun t ht => ?_, fun s t hs ht e => ?_⟩
 ·have := ha.2.1 t ht
  rw [gt_aft (by rw [ha.1]; exact ht)]; exact hb.2.1 _ (by omega)
 ·have h1 := ha.2.1 s hs
  have h2 := ha.2.1 t ht
  rw [gt_aft (by rw [ha.1]; exact hs), gt_aft (by rw [ha.1]; exact ht)] at e
  have := hb.2.2 _ _ (by omega) (by omega) e
  exact ha.2.2 s t hs ht (by omega)
theorem BijL.bak {N : Nat} {a : List Int} (ha : BijL N a) : BijL N (bak a) := by
 have key : ∀ s, s < N → ∃ t, t < N ∧ gt a t = (s : Int) ∧ gt (Go.Proofs.YtmjkoejegfjbbaaGreat.bak a) s = (t : Int) := fun s hs => by
  obtain ⟨t, ht, e⟩ := ha.sur s hs
  refine ⟨t, ht, e, ?_⟩
  have := gt_bak ha ht
  rwa [e, Int.toNat_natCast] at this
 refine ⟨by rw [bak_len]; exact ha.1, fun s hs => ?_, fun s t hs ht e => ?_⟩
 ·obtain ⟨t, ht, _, e⟩ := key s hs
  rw [e]; omega
 ·obtain ⟨x, _, e1, e2⟩ := key s hs
  obtain ⟨y, _, e3, e4⟩ := key t ht
  rw [e2, e4] at e
  have : x = y := by omega
  subst this
  rw [e1] at e3; omega
def pf (N : Nat) (a : List Int) : Fin N → Fin N := fun t => ⟨(gt a t).toNat % N, Nat.mod_lt _ (Nat.lt_of_le_of_lt (Nat.zero_le _) t.2)⟩
def pm (N : Nat) (a b : Fin N → Fin N) : Fin N → Fin N := fun t => b (a t)
theorem pm_mon (N : Nat) : MonOn (fun _ : Fin N → Fin N => True) (pm N) (fun t => t) := ⟨fun _ _ _ _ => trivial, trivial, fun _ _ _ _ _ _ => rfl, fun _ _ => rfl, fun _ _ => rfl⟩
theorem pf_val {N : Nat} {a : List Int} (h : BijL N a) (t : Fin N) : ((pf N a t).val : Int) = gt a t.val := by
 have := h.2.1 t.val t.2
 show (((gt a t.val).toNat % N : Nat) : Int) = _
 rw [Nat.mod_eq_of_lt (by omega)]; omega
theorem pf_self (N : Nat) : pf N (selfL N) = fun t => t := by
 funext t
 have := pf_val (BijL.self N) t
 rw [gt_selfL t.2] at this
 exact Fin.ext (by omega)
theorem pf_aft {N : Nat} {a b : List Int} (ha : BijL N a) (hb : BijL N b) : pf N (aft a b) = pm N (pf N a) (pf N b) := by
 funext t
 apply Fin.ext
 have h1 := pf_val (ha.aft hb) t
 have h2 := pf_val hb (pf N a t)
 have h3 := pf_val ha t
 rw [gt_aft (by rw [ha.1]; exact t.2)] at h1
 have h4 : (gt a t.val).toNat = (pf N a t).val := by omega
 rw [h4] at h1
 show (pf N (aft a b) t).val = (pf N b (pf N a t)).val
 omega
theorem pf_bak1 {N : Nat} {a : List Int} (ha : BijL N a) : pm N (pf N a) (pf N (bak a)) = fun t => t := by
 funext t
 apply Fin.ext
 have h2 := pf_val ha.bak (pf N a t)
 have h3 := pf_val ha t
 have h4 := gt_bak ha t.2
 rw [show (gt a t.val).toNat = (pf N a t).val by omega] at h4
 show (pf N (bak a) (pf N a t)).val = t.val
 omega
theorem pf_bak2 {N : Nat} {a : List Int} (ha : BijL N a) : pm N (pf N (bak a)) (pf N a) = fun t => t := by
 funext t
 apply Fin.ext
 obtain ⟨s, hs, e⟩ := ha.sur t.val t.2
 have h1 := gt_bak ha hs
 rw [e, Int.toNat_natCast] at h1
 have h2 := pf_val ha.bak t
 have h3 := pf_val ha (pf N (bak a) t)
 have h4 : (pf N (bak a) t).val = s := by omega
 rw [h4, e] at h3
 show (pf N a (pf N (bak a) t)).val = t.val
 omega
theorem evB_bij {N : Nat} {L : List (List Int)} (hL : ∀ b ∈ L, BijL N b) {w : List Int} (hw : WordN L.length w) : ∀ k, k ≤ w.length → BijL N (evB N L w k)
 | 0, _ => BijL.self N
 | k + 1, hk => by
  have ih := evB_bij hL hw k (by omega)
  have hl := hw _ (gtMem (l := w) (i := k) (by omega))
  rw [evB]
  split
  ·exact ih.aft (hL _ (gtMem (by omega))).bak
  ·exact ih.aft (hL _ (gtMem (by omega)))
theorem take_succ_gt' (w : List Int) (k : Nat) (hk : k < w.length) : w.take (k + 1) = w.take k ++ [gt w k] := take_succ_gt w k hk
theorem evB_ev {N : Nat} {L : List (List Int)} (hL : ∀ b ∈ L, BijL N b) {w : List Int} (hw : WordN L.length w) : ∀ k, k ≤ w.length → pf N (evB N L w k) = evW (pm N) (fun t => t) (fun j => pf N (gt L j)) (fun j => pf N (bak (gt L j))) (w.take k)
 | 0, _ => pf_self N
 | k + 1, hk => by
  have ih := evB_ev hL hw k (by omega)
  have hb := evB_bij hL hw k (by omega)
  have hl := hw _ (gtMem (l := w) (i := k) (by omega))
  rw [take_succ_gt' w k (by omega), evW_app (pm_mon N), evW_one (pm_mon N), ← ih, evB]
  unfold letW
  split
  ·exact pf_aft hb (hL _ (gtMem (by omega))).bak
  ·exact pf_aft hb (hL _ (gtMem (by omega)))
theorem real_of {P : Pr} {L : List (List Int)} (hP : Valid P) (hR : RealB P L) : rconsB P = true := by
 obtain ⟨hl, hb, hw, hr⟩ := hR
 obtain ⟨N, hN⟩ : ∃ N, N = (ordP P).toNat := ⟨_, rfl⟩
 rw [← hN] at hb hw hr
 have hop := hP.ordP_pos
 have hN0 : 0 < N := by omega
 have hbj : ∀ j, j < P.orders.length → BijL N (gt L j) := fun j hj => hb _ (gtMem (by omega))
 have h1 : ∀ j, j < P.orders.length → pm N (pf N (gt L j)) (pf N (bak (gt L j))) = fun t => t := fun j hj => pf_bak1 (hbj j hj)
 have h2 : ∀ j, j < P.orders.length → pm N (pf N (bak (gt L j))) (pf N (gt L j)) = fun t => t := fun j hj => pf_bak2 (hbj j hj)
 have hrel : ∀ w ∈ relsP P, evW (pm N) (fun t => t) (fun j => pf N (gt L j)) (fun j => pf N (bak (gt L j))) w = fun t => t := fun w hwm => by
  have hwn : WordN L.length w := by rw [hl]; exact relsP_word hP w hwm
  have e1 := evB_ev hb hwn w.length (Nat.le_refl _)
  rw [List.take_length, hw w hwm, pf_self] at e1
  exact e1.symm
 have H : Holds P (fun _ => True) (pm N) (fun t => t) (fun j => pf N (gt L j)) 0 := holds_of hP (pm_mon N) h1 h2 hrel
 obtain ⟨h, hh⟩ : ∃ h : Nat → Fin N → Fin N, h = fun j => pf N (gt L j) := ⟨_, rfl⟩
 have sur : ∀ t, t < N → ∃ x, Vec P.orders x ∧ (npr (pm N) h x 0 (fun t => t) P.orders.length ⟨0, hN0⟩).val = t := fun t ht => by
  have := hr t ht (fun t => ∃ x, Vec P.orders x ∧ (npr (pm N) h x 0 (fun t => t) P.orders.length ⟨0, hN0⟩).val = t)
   ⟨zeros P.orders.length, zeros_vec hP, by
    have : npr (pm N) h (zeros P.orders.length) 0 (fun t => t) P.orders.length = fun t => t := acc_zero _ _ _ _ _ (fun j _ _ => gt_replicate _ _)
    rw [this]⟩ (by
    rintro s b ⟨x, hx, rfl⟩ hbL
    obtain ⟨j, hj, rfl⟩ := mem_gt hbL
    have hj' : j < P.orders.length := by omega
    refine ⟨tg P x j, tg_vec hP x j hx hj', ?_⟩
    have e1 := vd_tg hP (pm_mon N) H x j hx (Nat.zero_le _) hj'
    rw [← hh] at e1
    rw [Nat.sub_zero] at e1
    rw [e1]
    have e2 := pf_val (hbj j hj') (npr (pm N) h x 0 (fun t => t) P.orders.length ⟨0, hN0⟩)
    show ((pf N (gt L j)) (npr (pm N) h x 0 (fun t => t) P.orders.length ⟨0, hN0⟩)).val = _
    omega)
  exact this
 have hF : ∀ s, s < N → ∃ t, t < N ∧ (npr (pm N) h (elAt P (t : Int)) 0 (fun t => t) P.orders.length ⟨0, hN0⟩).val = s := fun s hs => by
  obtain ⟨x, hx, e⟩ := sur s hs
  have hnb := num_bd hP hx
  refine ⟨(num P x).toNat, by omega, ?_⟩
  rw [Int.toNat_of_nonneg hnb.1, elAt_num hP hx, e]
 refine real_cons hP (pm_mon N) H (fun j hj a b hab => ?_) (fun x y hx hy hxy => ?_)
 ·have e1 : pm N (pf N (bak (gt L j))) (pm N (pf N (gt L j)) a) = pm N (pf N (bak (gt L j))) (pm N (pf N (gt L j)) b) := by rw [hab]
  have e2 : ∀ c : Fin N → Fin N, pm N (pf N (bak (gt L j))) (pm N (pf N (gt L j)) c) = c := fun c => by
   show pm N (pm N (pf N (bak (gt L j))) (pf N (gt L j))) c = c
   rw [h2 j hj]; rfl
  rw [e2, e2] at e1; exact e1
 ·rw [← hh] at hxy
  have nx := num_bd hP hx
  have ny := num_bd hP hy
  have := surj_inj (N := N) (fun t => (npr (pm N) h (elAt P (t : Int)) 0 (fun t => t) P.orders.length ⟨0, hN0⟩).val) hF (a := (num P x).toNat) (b := (num P y).toNat) (by omega) (by omega) (by
   show (npr (pm N) h (elAt P ((num P x).toNat : Int)) 0 (fun t => t) P.orders.length ⟨0, hN0⟩).val = (npr (pm N) h (elAt P ((num P y).toNat : Int)) 0 (fun t => t) P.orders.length ⟨0, hN0⟩).val
   rw [Int.toNat_of_nonneg nx.1, Int.toNat_of_nonneg ny.1, elAt_num hP hx, elAt_num hP hy, hxy])
  have e3 : num P x = num P y := by omega
  rw [← elAt_num hP hx, ← elAt_num hP hy, e3]
end Go.Proofs.YtmjkoejegfjbbaaGreat
namespace Go.Proofs.YtmjkoejegfjbbaaGreat
open Go.RowKit
theorem wp_make_cap {ops : Array Oper} {rest : List Oper} {o : Oper} {a : Act} {Q : Exit → Act → World → Prop} {w : World} (hgd : o.guard = none) (l c : Operand)
  (ho : o.op = Op.makeSlice 36 l c) (base n : Nat) (C : Int) (hl : a.eval l = .int .i64 0) (hc : a.eval c = .int .i64 C) (hC : C = n) (hn : n ≤ 2147483648) (hbase : base ≤ w.heap.size)
  (h : ∀ v w', Own base w' v [] → Ext w w' → wpList Tryz.prog ops Q rest (a.put o.dst v) w') :
  wpList Tryz.prog ops Q (o :: rest) a w := by
 obtain ⟨i0, hi, hz0, hz1, hz2⟩ := info_parts Tryz.infoInt
 refine wpList_make_own w hgd l c 36 ho base 2 i0 (.int .i64 0) 1 und_ints hi hz0 hz1 .i64 .i64 C n hl hc hC (by rw [hz2]; omega) (by unfold maxLen; omega) hbase ?_
 intro w' h1 h2
 exact h _ w' h1 h2
theorem own_nil0 {B H : Nat} {w : World} (hB : B ≤ w.heap.size) (hH : w.heap.size = H) : Own B (w.alloc (.cells #[] 2)) (.slice (some ⟨H, 0, none⟩) 0 0) [] := by
 subst hH; exact World.ownsRow_lit w #[] 0 hB (by decide) rfl
def SeenB (a : List Int) (k : Nat) (l : List Bool) : Prop := l.length = a.length ∧ (∀ j, j < a.length → (gt l j = true ↔ ∃ s, s < k ∧ gt a s = (j : Int))) ∧ (∀ s, s < k → 0 ≤ gt a s ∧ gt a s < a.length) ∧ ∀ s t, s < k → t < k → gt a s = gt a t → s = t
theorem SeenB.zero (a : List Int) : SeenB a 0 (List.replicate a.length false) :=
 ⟨List.length_replicate, fun j hj => by
  have : gt (List.replicate a.length false) j = false := by simp [gt, hj]
  rw [this]
  exact ⟨fun h => (by cases h), fun ⟨s, hs, _⟩ => absurd hs (by omega)⟩, fun s hs => by omega, fun s t hs => by omega⟩
theorem SeenB.step {a : List Int} {k : Nat} {l : List Bool} (h : SeenB a k l) (hr : 0 ≤ gt a k ∧ gt a k < a.length) (hn : gt l (gt a k).toNat = false) : SeenB a (k + 1) (l.set (gt a k).toNat true) := by
 obtain ⟨h1, h2, h3, h4⟩ := h
 have hnew : ∀ s, s < k → gt a s ≠ gt a k := fun s hs e => by
  have := (h2 (gt a k).toNat (by omega)).2 ⟨s, hs, by omega⟩
  rw [hn] at this; cases this
 refine ⟨by rw [List.length_set]; exact h1, fun j hj => ?_, fun s hs => ?_, fun s t hs ht e => ?_⟩
 ·by_cases e : (gt a k).toNat = j
  ·subst e
   rw [gt_set_eq _ _ _ (by omega)]
   exact ⟨fun _ => ⟨k, by omega, by omega⟩, fun _ => rfl⟩
  ·rw [gt_set_ne _ _ _ _ e, h2 j hj]
   constructor
   ·rintro ⟨s, hs, e2⟩; exact ⟨s, by omega, e2⟩
   ·rintro ⟨s, hs, e2⟩
    rcases Nat.lt_succ_iff_lt_or_eq.1 hs with h5 | h5
    ·exact ⟨s, h5, e2⟩
    ·subst h5; exact absurd (by omega) e
 ·rcases Nat.lt_succ_iff_lt_or_eq.1 hs with h5 | h5
  ·exact h3 s h5
  ·subst h5; exact hr
 ·rcases Nat.lt_succ_iff_lt_or_eq.1 hs with h5 | h5 <;> rcases Nat.lt_succ_iff_lt_or_eq.1 ht with h6 | h6
  ·exact h4 s t h5 h6 e
  ·subst h6; exact absurd e (hnew s h5)
  ·subst h5; exact absurd e.symm (hnew t h6)
  ·omega
theorem SeenB.bad2 {a : List Int} {k : Nat} {l : List Bool} (h : SeenB a k l) (hk : k < a.length) (hr : 0 ≤ gt a k ∧ gt a k < a.length) (hn : gt l (gt a k).toNat = true) : ¬ BijL a.length a := fun hb => by
 obtain ⟨s, hs, e⟩ := (h.2.1 (gt a k).toNat (by omega)).1 hn
 have := hb.2.2 s k (by omega) hk (by omega)
 omega
theorem SeenB.done {a : List Int} {l : List Bool} (h : SeenB a a.length l) : BijL a.length a := ⟨rfl, h.2.2.1, h.2.2.2⟩
open Classical in
set_option maxRecDepth 100000 in
set_option maxHeartbeats 4000000 in
theorem isBijection_ok (a : List Int) (hl : a.length ≤ 1000000) (w : World) (v : Value) (S : Nat → Prop) (hv : Ints S w v a) :
  Calls Tryz.prog 151 #[v] w (Ret w fun _ r => r = .bool (decide (BijL a.length a))) := by
 obtain ⟨av, cap, rfl, _, _⟩ := hv.shape
 obtain ⟨N, hN⟩ : ∃ N, N = a.length := ⟨_, rfl⟩
 have hN2 : N ≤ 1000000 := by omega
 have HV := Lib.hid (And.intro hv hN); clear hv hl
 rw [← hN]
 clear hN
 go_enter Tryz.func151, Tryz.ntmps151
 go_wp2_with (at_make; refine wp_make_bools rfl _ _ rfl w.heap.size N w.heap.size rfl (N : Int) rfl rfl (by omega) (by omega) (Nat.le_refl _) ?_; intro w1 hM1 hg1 hlt1)
 have hM1 : BOwn w.heap.size w1 (.slice (some ⟨w.heap.size, 0, none⟩) N N) (List.replicate N false) := hM1
 have hgb1 : w1.grownBy w1 (some w.heap.size) := grown_refl _ _
 go_loopw [11] (fun iv wr => ∃ (k : Nat) (l : List Bool), iv = .int .i64 (k : Int) ∧ k ≤ N ∧ Ext w wr ∧ BOwn w.heap.size wr (.slice (some ⟨w.heap.size, 0, none⟩) N N) l ∧ Hid (SeenB a k l)) (fun iv _ => N - (intOf iv).toNat)
 case atStart => exact ⟨0, _, rfl, by omega, hg1, hM1, Lib.hid (by rw [HV.out.2]; exact SeenB.zero a)⟩
 case round =>
  clear hM1 hgb1
  obtain ⟨k, l, rfl, hk, hg, hO, hS⟩ := hrel
  by_cases hlt : k < N
  ·have hlt' : (k : Int) < N := by omega
   have hka : k < a.length := by rw [← HV.out.2]; exact hlt
   obtain ⟨b, off, hab, _, _, hc⟩ := Ints.at (HV.out.1.ext hg) k hka
   subst hab
   obtain ⟨x, hx⟩ : ∃ x, x = gt a k := ⟨_, rfl⟩
   rw [← hx] at hc
   have hww : IntKind.i64.wrap ((N : Int) - 1) = (N : Int) - 1 := IntWalk.i64_in _ (by omega)
   by_cases hr : 0 ≤ x ∧ x < (N : Int)
   ·have hin : inB x 0 ((N : Int) - 1) = true := by unfold inB; simp; omega
    have hll := hS.out.1
    have hcel := hO.cell x.toNat (by rw [hll, ← HV.out.2]; omega)
    have hfr := hO.frozen x.toNat
    have hxN := hr.2
    have hx0 := hr.1
    obtain ⟨s, hs⟩ : ∃ s, s = gt l x.toNat := ⟨_, rfl⟩
    rw [← hs] at hcel
    cases s with
    | true =>
     have hbad : ¬ BijL N a := by
      have h1 : 0 ≤ gt a k ∧ gt a k < a.length := by rw [← hx, ← HV.out.2]; exact hr
      have h2 := SeenB.bad2 hS.out hka h1 (by rw [← hx]; exact hs.symm)
      rw [← HV.out.2] at h2; exact h2
     have HB := Lib.hid hbad; clear hbad hll hs hx hr
     go_wp2_with fail
     refine Calls.mono (inside_ok _ _ _ _) ?_
     rintro _ _ ⟨rfl, rfl⟩
     rw [hin]
     clear hin hww
     go_wp2
     go_ret
     exact ⟨_, rfl, hg, by rw [decide_eq_false HB.out]; rfl⟩
    | false =>
     have hnx : SeenB a (k + 1) (l.set x.toNat true) := by
      have h1 : 0 ≤ gt a k ∧ gt a k < a.length := by rw [← hx, ← HV.out.2]; exact hr
      have h2 := SeenB.step hS.out h1 (by rw [← hx]; exact hs.symm)
      rw [← hx] at h2; exact h2
     obtain ⟨hO2, hgs⟩ := hO.store x.toNat true
     have hgn : Ext w (wr.setCell ⟨w.heap.size, x.toNat, none⟩ (.bool true)) := grown_own hg hgs (fun j hj hlt => by cases hj; omega)
     have HB := Lib.hid (And.intro hnx (And.intro hO2 hgn)); clear hnx hO2 hgn hgs hll hs hx hr
     go_wp2_with fail
     refine Calls.mono (inside_ok _ _ _ _) ?_
     rintro _ _ ⟨rfl, rfl⟩
     rw [hin]
     clear hin hww
     go_wp2
     go_roundw
     case rel => exact ⟨k + 1, l.set x.toNat true, by go_num, by omega, HB.out.2.2, HB.out.2.1, Lib.hid HB.out.1⟩
     case measure => simp [intOf]; omega
   ·have hin : inB x 0 ((N : Int) - 1) = false := by unfold inB; simp; omega
    have hbad : ¬ BijL N a := fun hb => hr (by have := hb.2.1 k hlt; rw [hx]; exact this)
    have HB := Lib.hid hbad; clear hbad hx hr
    go_wp2_with fail
    refine Calls.mono (inside_ok _ _ _ _) ?_
    rintro _ _ ⟨rfl, rfl⟩
    rw [hin]
    clear hin hww
    go_wp2
    go_ret
    exact ⟨_, rfl, hg, by rw [decide_eq_false HB.out]; rfl⟩
  ·have hke : k = N := by omega
   have hfin : BijL N a := by
    have h1 := hS.out
    rw [hke, HV.out.2] at h1
    rw [HV.out.2]; exact h1.done
   have HF := Lib.hid hfin; clear hfin
   go_wp2
   go_ret
   exact ⟨_, rfl, hg, by rw [decide_eq_true HF.out]; rfl⟩
set_option maxRecDepth 100000 in
set_option maxHeartbeats 4000000 in
theorem compose_ok (a b : List Int) (hl : a.length ≤ 1000) (hab : ∀ t, t < a.length → 0 ≤ gt a t ∧ gt a t < b.length) (w : World) (v u : Value) (S T : Nat → Prop) (hv : Ints S w v a) (hu : Ints T w u b) :
  Calls Tryz.prog 162 #[v, u] w (Ret w fun w' r => Own w.heap.size w' r (aft a b)) := by
 obtain ⟨av, cap, rfl, _, _⟩ := hv.shape
 obtain ⟨bv, capb, rfl, _, _⟩ := hu.shape
 obtain ⟨N, hN⟩ : ∃ N, N = a.length := ⟨_, rfl⟩
 have hN2 : N ≤ 1000 := by omega
 rw [← hN]
 have HV := Lib.hid (And.intro hv (And.intro hu (And.intro hN hab))); clear hv hu hl hN hab
 go_enter Tryz.func162, Tryz.ntmps162
 go_wp2_with (at_make; refine wp_make_cap rfl _ _ rfl w.heap.size N (N : Int) rfl rfl (by omega) (by omega) (Nat.le_refl _) ?_; intro v1 w1 hO1 hg1)
 go_loopw [5, 13] (fun ov iv wr => ∃ (k : Nat) (v5 : Value), v5 = ov ∧ iv = .int .i64 (k : Int) ∧ k ≤ N ∧ Ext w wr ∧ Own w.heap.size wr v5 ((aft a b).take k)) (fun _ iv _ => N - (intOf iv).toNat)
 case atStart => exact ⟨0, _, rfl, rfl, by omega, hg1, by rw [List.take_zero]; exact hO1⟩
 case round =>
  clear hO1 hg1
  obtain ⟨k, v5, rfl, rfl, hk, hg, hO⟩ := hrel
  by_cases hlt : k < N
  ·have hlt' : (k : Int) < N := by omega
   have hka : k < a.length := by rw [← HV.out.2.2.1]; exact hlt
   obtain ⟨xb, xo, hxa, _, _, hc⟩ := Ints.at (HV.out.1.ext hg) k hka
   subst hxa
   have hr := HV.out.2.2.2 k hka
   obtain ⟨x, hx⟩ : ∃ x, x = (gt a k).toNat := ⟨_, rfl⟩
   have hxi : gt a k = (x : Int) := by omega
   rw [hxi] at hc
   have hxb : x < b.length := by omega
   obtain ⟨yb, yo, hya, _, _, hcy⟩ := Ints.at (HV.out.2.1.ext hg) x hxb
   subst hya
   have hst : (aft a b).take (k + 1) = (aft a b).take k ++ [gt b x] := by rw [take_succ_gt _ k (by rw [aft_len]; exact hka), gt_aft hka, hx]
   have hll : ((aft a b).take k).length ≤ 1000000 := by rw [List.length_take]; omega
   obtain ⟨y, hy⟩ : ∃ y, y = gt b x := ⟨_, rfl⟩
   rw [← hy] at hcy hst
   have hxb' : (x : Int) < b.length := by omega
   have HS := Lib.hid (And.intro hst hll); clear hst hll hx hxi hr hy hxb
   go_wp2_with (first | (at_builtin; refine wp_app_int rfl _ _ rfl w.heap.size v5 ((aft a b).take k) y rfl wr hO rfl rfl HS.out.2 hg.size ?_; intro v6 w6 hO6 hg6) | fail)
   have hgn : Ext w w6 := grown_own hg hg6 (fun j hj hlt => by have := (hO.lt j hj).1; omega)
   go_roundw
   case rel => exact ⟨k + 1, v6, rfl, by go_num, by omega, hgn, by rw [HS.out.1]; exact hO6⟩
   case measure => simp [intOf]; omega
  ·have hke : k = N := by omega
   have hfin : Own w.heap.size wr v5 (aft a b) := by
    have e : (aft a b).take k = aft a b := by rw [hke, HV.out.2.2.1, ← aft_len a b, List.take_length]
    rw [e] at hO; exact hO
   have HF := Lib.hid hfin; clear hfin hO
   go_wp2
   go_ret
   exact ⟨_, rfl, hg, HF.out⟩
end Go.Proofs.YtmjkoejegfjbbaaGreat
namespace Go.Proofs.YtmjkoejegfjbbaaGreat
open Go.RowKit
open Classical in
set_option maxRecDepth 100000 in
set_option maxHeartbeats 1000000 in
theorem IsBijection_ok {N : Nat} {a : List Int} (h128 : N ≤ 128) (ha : BijL N a) (w : World) (v : Value) (S : Nat → Prop) (hv : Ints S w v a) :
  Calls Tryz.prog 39 #[v] w (Ret w fun _ r => r = .bool true) := by
 have hcon := isBijection_ok a (by rw [ha.1]; omega) w v S hv
 have hd : decide (BijL a.length a) = true := decide_eq_true (by rw [ha.1]; exact ha)
 obtain ⟨av, cap, rfl, _, _⟩ := hv.shape
 have hl := ha.1
 have hl1 : (a.length : Int) ≤ 128 := by omega
 have HC := Lib.hid (And.intro hcon hd); clear hcon hd ha hv hl
 go_enter Tryz.func39, Tryz.ntmps39
 go_wp2_with fail
 refine Calls.mono HC.out.1 ?_
 rintro e1 w1 ⟨v1, rfl, hg1, rfl⟩
 go_wp2
 go_ret
 exact ⟨_, rfl, hg1, by rw [HC.out.2]; rfl⟩
end Go.Proofs.YtmjkoejegfjbbaaGreat
namespace Go.Proofs.YtmjkoejegfjbbaaGreat
structure RchInv (N : Nat) (L : List (List Int)) (rl : List Int) (i k : Nat) : Prop where
 nd : rl.Nodup
 rg : ∀ x ∈ rl, 0 ≤ x ∧ x < (N : Int)
 rc : ∀ x ∈ rl, Rch L x.toNat
 z : (0 : Int) ∈ rl
 ci : ∀ s, s < i → ∀ b ∈ L, gt b (gt rl s).toNat ∈ rl
 ck : ∀ j, j < k → gt (gt L j) (gt rl i).toNat ∈ rl
 le : i ≤ rl.length
theorem Rch.step {L : List (List Int)} {s : Nat} (h : Rch L s) {b : List Int} (hb : b ∈ L) : Rch L (gt b s).toNat := fun S h0 hs => hs s b (h S h0 hs) hb
theorem RchInv.len {N : Nat} {L : List (List Int)} {rl : List Int} {i k : Nat} (h : RchInv N L rl i k) : rl.length ≤ N := by
 have := nodup_sub_len rl (selfL N) h.nd (fun x hx => by
  have := h.rg x hx
  unfold selfL
  exact List.mem_map.2 ⟨x.toNat, List.mem_range.2 (by omega), by omega⟩)
 rwa [selfL_len] at this
theorem RchInv.start {N : Nat} (hN : 0 < N) (L : List (List Int)) : RchInv N L [0] 0 0 :=
 ⟨by simp, fun x hx => by rw [List.mem_singleton.1 hx]; omega, fun x hx => by rw [List.mem_singleton.1 hx]; exact fun S h0 _ => h0, by simp, fun s hs => by omega, fun j hj => by omega, by simp⟩
theorem RchInv.no {N : Nat} {L : List (List Int)} {rl : List Int} {i k : Nat} (h : RchInv N L rl i k) (hy : gt (gt L k) (gt rl i).toNat ∈ rl) : RchInv N L rl i (k + 1) :=
 ⟨h.nd, h.rg, h.rc, h.z, h.ci, fun j hj => by
  rcases Nat.lt_succ_iff_lt_or_eq.1 hj with h1 | h1
  ·exact h.ck j h1
  ·rw [h1]; exact hy, h.le⟩
theorem RchInv.yes {N : Nat} {L : List (List Int)} {rl : List Int} {i k : Nat} (h : RchInv N L rl i k) (hi : i < rl.length) (hk : k < L.length) (hb : BijL N (gt L k)) (hy : ¬ gt (gt L k) (gt rl i).toNat ∈ rl) : RchInv N L (rl ++ [gt (gt L k) (gt rl i).toNat]) i (k + 1) := by
 have hgi : ∀ s, s < rl.length → gt (rl ++ [gt (gt L k) (gt rl i).toNat]) s = gt rl s := fun s hs => gt_append_left _ _ _ hs
 have hx := h.rg _ (gtMem hi)
 have hr := h.rc _ (gtMem hi)
 have hyr := hb.2.1 (gt rl i).toNat (by omega)
 refine ⟨?_, fun x hx => ?_, fun x hx => ?_, List.mem_append_left _ h.z, fun s hs b hbL => ?_, fun j hj => ?_, by rw [List.length_append]; have := h.le; omega⟩
 ·rw [List.nodup_append]
  refine ⟨h.nd, by simp, fun a ha b hb e => hy ?_⟩
  have hb' := List.mem_singleton.1 hb
  rw [← hb', ← e]; exact ha
 ·rcases List.mem_append.1 hx with h1 | h1
  ·exact h.rg x h1
  ·rw [List.mem_singleton.1 h1]; exact hyr
 ·rcases List.mem_append.1 hx with h1 | h1
  ·exact h.rc x h1
  ·rw [List.mem_singleton.1 h1]; exact hr.step (gtMem hk)
 ·rw [hgi s (by omega)]; exact List.mem_append_left _ (h.ci s hs b hbL)
 ·rw [hgi i hi]
  rcases Nat.lt_succ_iff_lt_or_eq.1 hj with h1 | h1
  ·exact List.mem_append_left _ (h.ck j h1)
  ·rw [h1]; exact List.mem_append_right _ (List.mem_singleton.2 rfl)
theorem RchInv.next {N : Nat} {L : List (List Int)} {rl : List Int} {i : Nat} (h : RchInv N L rl i L.length) (hi : i < rl.length) : RchInv N L rl (i + 1) 0 :=
 ⟨h.nd, h.rg, h.rc, h.z, fun s hs b hb => by
  rcases Nat.lt_succ_iff_lt_or_eq.1 hs with h1 | h1
  ·exact h.ci s h1 b hb
  ·obtain ⟨j, hj, rfl⟩ := mem_gt hb
   rw [h1]; exact h.ck j hj, fun j hj => by omega, hi⟩
theorem RchInv.done {N : Nat} {L : List (List Int)} {rl : List Int} (h : RchInv N L rl rl.length 0) : rl.length = N ↔ ∀ t, t < N → Rch L t := by
 have hle := h.len
 constructor
 ·intro e t ht
  have hm : (t : Int) ∈ rl := by
   refine Classical.byContradiction fun hn => ?_
   have := nodup_sub_len ((t : Int) :: rl) (selfL N) (List.nodup_cons.2 ⟨hn, h.nd⟩) (fun x hx => by
    have hb : 0 ≤ x ∧ x < (N : Int) := by
     rcases List.mem_cons.1 hx with e | hx
     ·rw [e]; omega
     ·exact h.rg x hx
    unfold selfL
    exact List.mem_map.2 ⟨x.toNat, List.mem_range.2 (by omega), by omega⟩)
   rw [selfL_len, List.length_cons] at this
   omega
  have := h.rc _ hm
  rwa [Int.toNat_natCast] at this
 ·intro hall
  have hsub : ∀ x ∈ selfL N, x ∈ rl := fun x hx => by
   unfold selfL at hx
   obtain ⟨t, ht, rfl⟩ := List.mem_map.1 hx
   exact hall t (List.mem_range.1 ht) (fun t => (t : Int) ∈ rl) h.z (fun s b hs hb => by
    obtain ⟨q, hq, e⟩ := mem_gt hs
    have h1 := h.ci q hq b hb
    rw [e, Int.toNat_natCast] at h1
    have h2 := h.rg _ h1
    have e2 : (((gt b s).toNat : Nat) : Int) = gt b s := by omega
    show (((gt b s).toNat : Nat) : Int) ∈ rl
    rw [e2]; exact h1)
  have hnd : (selfL N).Nodup := by
   unfold selfL
   rw [List.nodup_iff_pairwise_ne, List.pairwise_map]
   exact (List.nodup_iff_pairwise_ne.1 (List.nodup_range (n := N))).imp (fun h e => h (by omega))
  have := nodup_sub_len _ rl hnd hsub
  rw [selfL_len] at this
  omega
open Classical in
noncomputable def reC (P : Pr) : Int := if validB P = true then (if 128 < ordP P then 3 else 0) else 1
open Classical in
noncomputable def reB (P : Pr) (L : List (List Int)) : Bool := decide (validB P = true ∧ ordP P ≤ 128 ∧ RealB P L)
open Classical in
theorem re_inv {P : Pr} (h : validB P = false) (L : List (List Int)) : reC P = 1 ∧ reB P L = false := by
 unfold reC reB
 rw [h]
 exact ⟨rfl, decide_eq_false (fun hh => by cases hh.1)⟩
open Classical in
theorem re_big {P : Pr} (h : validB P = true) (h2 : 128 < ordP P) (L : List (List Int)) : reC P = 3 ∧ reB P L = false := by
 unfold reC reB
 rw [if_pos h, if_pos h2]
 exact ⟨rfl, decide_eq_false (fun hh => by omega)⟩
open Classical in
theorem re_no {P : Pr} (h : validB P = true) (h2 : ¬ 128 < ordP P) {L : List (List Int)} (h3 : ¬ RealB P L) : reC P = 0 ∧ reB P L = false := by
 unfold reC reB
 rw [if_pos h, if_neg h2]
 exact ⟨rfl, decide_eq_false (fun hh => h3 hh.2.2)⟩
open Classical in
theorem re_yes {P : Pr} (h : validB P = true) (h2 : ¬ 128 < ordP P) {L : List (List Int)} (h3 : RealB P L) : reC P = 0 ∧ reB P L = true := by
 unfold reC reB
 rw [if_pos h, if_neg h2]
 exact ⟨rfl, decide_eq_true ⟨h, by omega, h3⟩⟩
open Classical in
theorem reB_true {P : Pr} {L : List (List Int)} (h : reB P L = true) : validB P = true ∧ ordP P ≤ 128 ∧ RealB P L := by
 unfold reB at h
 exact of_decide_eq_true h
end Go.Proofs.YtmjkoejegfjbbaaGreat
namespace Go.Proofs.YtmjkoejegfjbbaaGreat
section
open Go.Proofs Go.Shelf Go.RowKit Go.Lib Go.Sort
def Tryz.reverseInts_ren : Go.Shelf.Ren := ⟨fun | 35 => 366 | n => n, fun | 22 => 36 | 23 => 2 | 3 => 3 | 4 => 4 | 0 => 0 | n => n, fun | n => n⟩
theorem Tryz.reverseInts : Go.Proofs.SlLaysE.n35 Tryz.prog Tryz.reverseInts_ren := {
  mixed := by kernel_rfl
  f35 := ⟨Tryz.f366.name, by decide, Tryz.func366.trans (congrArg some (by kernel_rfl))⟩
  t0 := Tryz.underlying0
  a0 := Tryz.isAgg0
  z0 := Tryz.sizeOf0
  v0 := Tryz.zeroValue0
  t3 := Tryz.underlying3
  a3 := Tryz.isAgg3
  z3 := Tryz.sizeOf3
  v3 := Tryz.zeroValue3
  t4 := Tryz.underlying4
  a4 := Tryz.isAgg4
  z4 := Tryz.sizeOf4
  v4 := Tryz.zeroValue4
  t22 := Tryz.underlying36
  a22 := Tryz.isAgg36
  z22 := Tryz.sizeOf36
  v22 := Tryz.zeroValue36
  a23 := Tryz.isAgg2
  z23 := Tryz.sizeOf2 }
theorem reverseI_ok (w : World) (base : Nat) (v : Value) (l : List Int) (h : Own base w v l) (hl : l.length ≤ 9223372036854775807) :
  Calls Tryz.prog 366 #[v] w fun e w' => e = .returned (.tuple #[]) ∧ Own base w' v l.reverse ∧ w.grownBy w' v.ownBlock := by
 obtain ⟨h0, h1 | ⟨g, cap, cur, hv, hbase, hb, hn, hcap, hsz, ht⟩⟩ := id h
 ·obtain ⟨rfl, hn⟩ := h1
  have hnil : l = [] := List.eq_nil_of_length_eq_zero hn
  subst hnil
  have hc := AnyE.slices_Reverse_empty Tryz.reverseInts none 0 w
  change Calls Tryz.prog 366 _ _ _ at hc
  refine hc.mono ?_
  rintro e w' ⟨rfl, rfl⟩
  exact ⟨rfl, h, grown_refl _ _⟩
 ·subst hv
  have ht' : cur.toList.take l.length = l.map (Value.int .i64) := by rw [Nat.mul_one] at ht; exact ht
  have hc := AnyE.slices_Reverse Tryz.reverseInts (Value.int .i64) (fun _ => rfl) g 0 cap l w (holds_of_blockI hb ht') hl
  change Calls Tryz.prog 366 _ _ _ at hc
  refine hc.mono ?_
  rintro e w' ⟨rfl, n, rfl⟩
  have o := ownsRow_sortedI (w := w) (n := n) (os := #[]) (ss := l) (ts := l.reverse) (by simp) hbase hb hn hcap hsz
  have gr := grownBy_sortedI (w := w) (g := g) (n := n) (os := #[]) l.reverse.toArray
  rw [grow_empty] at o gr
  refine ⟨rfl, ?_, gr⟩
  show World.ownsRow _ _ _ _ _ _ _
  rw [List.length_reverse]
  exact o
end
open Go.RowKit
set_option maxHeartbeats 1000000 in
theorem invertWord_ok (w : World) (v : Value) (l : List Int) (S : Nat → Prop) (hv : Ints S w v l) (hn : l.length ≤ 1000) (hb : ∀ i, i < l.length → -1000 ≤ gt l i ∧ gt l i ≤ 1000) :
  Calls Tryz.prog 292 #[v] w (Ret w fun w' r => Own w.heap.size w' r (invWord l)) := by
 obtain ⟨a, cap, rfl, _, _⟩ := hv.shape
 have HB := Lib.hid hb; clear hb
 go_enter Tryz.func292, Tryz.ntmps292
 go_wp2
 go_loopw [3, 8] (fun ov iv wr => ∃ (i : Nat) (v3 : Value), v3 = ov ∧ iv = .int .i64 i ∧ i ≤ l.length ∧ Ext w wr ∧ Own w.heap.size wr v3 ((l.take i).map (fun x => -x))) (fun _ iv _ => l.length - (intOf iv).toNat)
 case atStart => exact ⟨0, _, rfl, rfl, by omega, Ext.refl _, World.ownsRow_nil _ _ _ _⟩
 case round =>
  obtain ⟨i, v3, rfl, rfl, hi, hg, hO⟩ := hrel
  obtain ⟨m, hm⟩ : ∃ m, m = (l.take i).map (fun x => -x) := ⟨_, rfl⟩
  have hml : m.length = i := by rw [hm, List.length_map, List.length_take]; omega
  rw [← hm] at hO
  by_cases hlt : i < l.length
  ·have hlt' : (i : Int) < l.length := by omega
   obtain ⟨b, off, rfl, _, _, hc⟩ := Ints.at (hv.ext hg) i hlt
   have hx0 := HB.out i hlt
   have e1 : IntKind.i64.wrap (-(gt l i)) = -(gt l i) := IntWalk.i64_in _ (by omega)
   have hnx : (l.take (i + 1)).map (fun x => -x) = m ++ [-(gt l i)] := by
    rw [hm, List.take_add_one, List.map_append, List.getElem?_eq_getElem hlt]; simp [gt_eq l i hlt]
   have HM := Lib.hid (And.intro hml hnx); clear hml hnx hm
   go_wp2_with (first | (at_builtin; refine wp_app_ints rfl _ _ rfl w.heap.size v3 _ rfl (hO.ext0 (World.grownBy_alloc _ _ _)) _ _ rfl Any (ints_lit wr _) (by have := HM.out.1; simp only [List.length_cons, List.length_nil]; omega) (by have := hg.size; simp; omega) ?_; intro v5 w5 hO5 hg5 _) | fail)
   have hg5' : wr.grownBy w5 v3.ownBlock := grown_trans (grown_of_ext _ (World.grownBy_alloc _ _ _)) hg5
   have hge : Ext w w5 := grown_own hg hg5' (fun b hb hlt => by have := (hO.lt b hb).1; omega)
   clear hO hg5 hg5' hc e1
   go_roundw
   case rel => exact ⟨i + 1, v5, rfl, by go_num, by omega, hge, by rw [HM.out.2]; exact hO5⟩
   case measure => simp [intOf]; omega
  ·have hie : i = l.length := by omega
   subst hie
   have hml2 : m.length ≤ 9223372036854775807 := by omega
   have hfin : m.reverse = invWord l := by rw [hm, List.take_length]; rfl
   have HM := Lib.hid (And.intro hfin hml2); clear hml hm hfin hml2
   go_wp2_with fail
   refine Calls.mono (reverseI_ok wr w.heap.size v3 m hO HM.out.2) ?_
   rintro e5 w5 ⟨rfl, hO5, hg5⟩
   have hge : Ext w w5 := grown_own hg hg5 (fun b hb hlt => by have := (hO.lt b hb).1; omega)
   rw [HM.out.1] at hO5
   clear hO hg5
   go_wp2
   go_ret
   exact ⟨_, rfl, hge, hO5⟩
end Go.Proofs.YtmjkoejegfjbbaaGreat
namespace Go.Proofs.YtmjkoejegfjbbaaGreat
section
open Go.Proofs Go.Shelf Go.RowKit Go.Lib
def Tryz.bitsMul_ren : Go.Shelf.Ren := ⟨fun | 212 => 365 | 263 => 415 | 264 => 416 | n => n, fun | 46 => 117 | 51 => 323 | 146 => 337 | 53 => 55 | 148 => 339 | n => n, fun | n => n⟩
theorem Tryz.bitsMul : Go.Proofs.Lays.n212 Tryz.prog Tryz.bitsMul_ren := {
  mixed := by kernel_rfl
  f212 := Tryz.func365.trans (congrArg some (by kernel_rfl))
  f263 := Tryz.func415.trans (congrArg some (by kernel_rfl))
  f264 := Tryz.func416.trans (congrArg some (by kernel_rfl))
  t46 := Tryz.underlying117
  a46 := Tryz.isAgg117
  z46 := Tryz.sizeOf117
  v46 := Tryz.zeroValue117
  t51 := Tryz.underlying323
  a51 := Tryz.isAgg323
  z51 := Tryz.sizeOf323
  v51 := Tryz.zeroValue323
  t53 := Tryz.underlying55
  a53 := Tryz.isAgg55
  z53 := Tryz.sizeOf55
  v53 := Tryz.zeroValue55
  t146 := Tryz.underlying337
  a146 := Tryz.isAgg337
  z146 := Tryz.sizeOf337
  v146 := Tryz.zeroValue337
  t148 := Tryz.underlying339
  a148 := Tryz.isAgg339
  z148 := Tryz.sizeOf339
  v148 := Tryz.zeroValue339 }
theorem bitsMul_ok (c : Nat) (w : World) (hc : c ≤ 1000) : Calls Tryz.prog 365 #[.int .u64 1, .int .u64 (c : Int)] w fun e w' => e = .returned (.tuple #[.int .u64 0, .int .u64 (c : Int)]) ∧ w' = w := by
 have h := Any.bits_Mul Tryz.bitsMul 1 c (by omega) (by omega) w
 change Calls Tryz.prog 365 _ _ _ at h
 refine h.mono ?_
 rintro e w' ⟨rfl, rfl⟩
 rw [Nat.one_mul, Nat.div_eq_of_lt (by omega), Nat.mod_eq_of_lt (by omega)]
 exact ⟨rfl, rfl⟩
end
open Go.RowKit
def repC (y : Int) (c n : Nat) : List Value := List.replicate n (.int .i64 y) ++ List.replicate (c - n) (.int .i64 0)
theorem repC_len {y : Int} {c n : Nat} (h : n ≤ c) : (repC y c n).length = c := by unfold repC; simp; omega
theorem repC_splice {y : Int} {c n m : Nat} (h : n + m ≤ c) : splice (repC y c n) n (List.replicate m (.int .i64 y)) = repC y c (n + m) := by
 unfold splice repC
 rw [List.take_append_of_le_length (by simp), List.take_of_length_le (by simp), List.drop_append, List.length_replicate, List.length_replicate, List.drop_replicate, List.drop_replicate, ← List.append_assoc, ← List.append_assoc]
 rw [show n - (n + m) = 0 by omega, show c - n - (n + m - n) = c - (n + m) by omega]
 simp [List.replicate_append_replicate]
theorem ext_of_below {w w' : World} (h : Below w.heap.size w w') : Ext w w' := ⟨h.os, h.tape, h.output, h.size, fun k hk _ => h.block k hk⟩
theorem srcOne {w : World} {b off : Nat} {u : Value} (h : w.cell? ⟨b, off, none⟩ = some u) : ∀ j v, ([u] : List Value)[j]? = some v → w.cell? ((⟨b, off, none⟩ : Addr).add j) = some v := fun j v hj => by
 have h0 : j = 0 := by
  have := (List.getElem?_eq_some_iff.1 hj).1
  simpa using this
 subst h0
 have : u = v := by simpa using hj
 subst this
 simpa [Addr.add] using h
theorem srcRep {w : World} {H c n m : Nat} {y : Int} {T : Nat} (h : w.heap[H]? = some (.cells (repC y c n).toArray T (0, 0))) (hm : m ≤ n) :
  ∀ j v, (List.replicate m (Value.int .i64 y))[j]? = some v → w.cell? ((⟨H, 0, none⟩ : Addr).add j) = some v := fun j v hj => by
 have hjm : j < m := by
  have := (List.getElem?_eq_some_iff.1 hj).1
  simpa using this
 have : Value.int .i64 y = v := by
  rw [List.getElem?_eq_getElem (by simpa using hjm)] at hj
  simpa using hj
 subst this
 have e : (repC y c n)[j]? = some (.int .i64 y) := by
  unfold repC
  rw [List.getElem?_append_left (by simp; omega), List.getElem?_eq_getElem (by simp; omega)]
  simp
 have e2 : w.cell? ⟨H, 0 + j, none⟩ = some (.int .i64 y) := by
  simp only [World.cell?, h, Nat.zero_add, Option.isSome_none, Bool.false_eq_true, if_false]
  rw [← Array.getElem?_toList]; exact e
 unfold Addr.add
 split
 ·rename_i hj0; subst hj0; exact e2
 ·exact e2
theorem rowOf {base H c : Nat} {w : World} (h : Own base w (.slice (some ⟨H, 0, none⟩) c c) (List.replicate c 0)) : ∃ cur : Array Value, w.heap[H]? = some (.cells cur 2 (0, 0)) ∧ ∀ y, cur = (repC y c 0).toArray := by
 obtain ⟨_, h | ⟨g, cp, cur, hv, _, hb, _, _, hsz, ht⟩⟩ := h
 ·exact absurd h.1 (by simp)
 simp only [Value.slice.injEq, Option.some.injEq, Addr.mk.injEq] at hv
 obtain ⟨⟨rfl, _⟩, _, rfl⟩ := hv
 refine ⟨cur, hb, fun y => ?_⟩
 apply Array.ext'
 have hl : cur.toList.length = c := by simpa using hsz
 rw [List.length_replicate, List.take_of_length_le (by omega)] at ht
 rw [ht]
 simp [repC]
set_option maxRecDepth 100000 in
set_option maxHeartbeats 400000 in
theorem repeatI_ok (w : World) (v : Value) (y : Int) (c : Nat) (S : Nat → Prop) (hv : Ints S w v [y]) (hc : 1 ≤ c ∧ c ≤ 1000) :
  Calls Tryz.prog 291 #[v, .int .i64 (c : Int)] w (Ret w fun w' r => Own w.heap.size w' r (List.replicate c y)) := by
 obtain ⟨a, cap, rfl, hcap, _⟩ := hv.shape
 obtain ⟨b, off, rfl, _, _, hcell⟩ := Ints.at hv 0 (by simp)
 have hcap : 1 ≤ cap := hcap
 have hy : gt [y] 0 = y := rfl
 rw [hy, Nat.add_zero] at hcell
 have hl1 : [y].length = 1 := rfl
 rw [hl1]
 go_enter Tryz.func291, Tryz.ntmps291
 go_wp2_with fail
 refine Calls.mono (bitsMul_ok c w hc.2) ?_
 rintro e1 w1 ⟨rfl, rfl⟩
 go_wp2_with (first | (at_make; refine wp_make_ints rfl _ _ rfl w1.heap.size c w1.heap.size rfl (c : Int) rfl rfl rfl (by omega) (Nat.le_refl _) ?_; intro w2 hO2 hg2 hlt2; obtain ⟨cur, hb2, hcur⟩ := rowOf hO2; rw [hcur y] at hb2; have hcl := hg2.cell hcell (by simp); clear hO2 hcur) | (refine wpList_copy_splice rfl _ _ _ _ rfl 2 (by kernel_rfl) (by kernel_rfl) (some ⟨w1.heap.size, 0, none⟩) (some ⟨b, off, none⟩) c c 1 cap rfl rfl w1.heap.size 0 (repC y c 0) 2 hb2 [.int .i64 y] (Nat.min_eq_left hc.1).symm (fun _ => ⟨rfl, _, rfl, srcOne hcl⟩) (by rw [repC_len (by omega)]; simp; omega) (by simp; rfl) w1.heap.size w1 hg2.below (Nat.le_refl _) ?_; intro w3 hb3 hB3) | fail)
 have hb30 : Hid (w3.heap[w1.heap.size]? = some (.cells (repC y c 1).toArray 2 (0, 0))) := by
  have := hb3
  rw [show ([.int .i64 y] : List Value) = List.replicate 1 (.int .i64 y) from rfl, repC_splice (by omega)] at this
  exact this
 have hE3 : Ext w1 w3 := ext_of_below hB3
 clear hb3 hB3 hb2 hcl
 go_wp2
 go_loopw [8] (fun nv wr => ∃ n : Nat, nv = .int .i64 n ∧ 1 ≤ n ∧ n ≤ c ∧ Ext w1 wr ∧ Hid (wr.heap[w1.heap.size]? = some (.cells (repC y c n).toArray 2 (0, 0)))) (fun nv _ => c - (intOf nv).toNat)
 case atStart => exact ⟨1, rfl, by omega, by omega, hE3, hb30⟩
 case round =>
  clear hE3 hb30
  obtain ⟨n, rfl, h1, hn, hE, hb⟩ := hrel
  by_cases hlt : n < c
  ·have hlt' : (n : Int) < c := by omega
   obtain ⟨m, hm⟩ : ∃ m, m = Nat.min n (c - n) := ⟨_, rfl⟩
   have hm1 : m ≤ n ∧ m ≤ c - n ∧ 1 ≤ m := ⟨by rw [hm]; exact Nat.min_le_left _ _, by rw [hm]; exact Nat.min_le_right _ _, by rw [hm]; exact Nat.le_min.2 ⟨h1, by omega⟩⟩
   have hcs : (List.replicate m (Value.int .i64 y)).length = Nat.min n (c - n) := by rw [List.length_replicate, hm]
   have hE2 : Below w1.heap.size w1 wr.drew := Ext.below (grown_trans hE (grown_drew wr none))
   have hne : ¬ c = n := by omega
   have hbd : wr.drew.heap[w1.heap.size]? = some (.cells (repC y c n).toArray 2 (0, 0)) := hb.out
   have HM := Lib.hid (And.intro hcs (And.intro hE2 (And.intro hne hbd))); clear hm hcs hE2 hne hbd
   go_wp2
   go_region_law (refine step_copy_splice rfl _ _ _ _ rfl 2 (by kernel_rfl) (by kernel_rfl) (if c = n then some ⟨w1.heap.size, 0, none⟩ else some ⟨w1.heap.size, n, none⟩) (some ⟨w1.heap.size, 0, none⟩) (c - n) (c - n) n c (by kernel_rfl) (by kernel_rfl) w1.heap.size n (repC y c n) 2 HM.out.2.2.2 (List.replicate m (.int .i64 y)) HM.out.1 (fun _ => ⟨if_neg HM.out.2.2.1, _, rfl, srcRep HM.out.2.2.2 hm1.1⟩) (by rw [repC_len hn, List.length_replicate]; omega) (fun v hv => by rw [(List.mem_replicate.1 hv).2]; rfl) w1.heap.size w1 HM.out.2.1 (Nat.le_refl _) ?_; intro w4 hb4 hB4)
   have hb5 : Hid (w4.heap[w1.heap.size]? = some (.cells (repC y c (n + m)).toArray 2 (0, 0))) := by
    have := hb4
    rw [repC_splice (by omega)] at this
    exact this
   have hE4 := ext_of_below hB4
   have hml : (List.replicate m (Value.int .i64 y)).length = m := List.length_replicate
   have hwm : IntKind.i64.wrap ((n : Int) + m) = n + m := IntWalk.i64_in _ (by omega)
   clear hb4 hB4 hE hb
   go_wp2
   go_roundw
   case rel => exact ⟨n + m, by omega, by omega, by omega, hb5⟩
   case measure => simp [intOf]; omega
  ·have hne : n = c := by omega
   subst hne
   have hO : Own w1.heap.size wr (.slice (some ⟨w1.heap.size, 0, none⟩) n n) (List.replicate n y) := by
    refine ⟨by simp, .inr ⟨w1.heap.size, n, _, by rw [List.length_replicate], Nat.le_refl _, hb.out, by simp, by unfold maxLen; omega, by rw [List.size_toArray, repC_len (Nat.le_refl _)]; omega, by simp [repC]⟩⟩
   go_wp2
   go_ret
   exact ⟨_, rfl, hE, hO⟩
end Go.Proofs.YtmjkoejegfjbbaaGreat
namespace Go.Proofs.YtmjkoejegfjbbaaGreat
open Go.RowKit
theorem vec_word {P : Pr} (hP : Valid P) {e : List Int} (h : Vec P.orders e) : (∀ i, i < e.length → 0 ≤ gt e i ∧ gt e i ≤ 7) ∧ (nWord e e.length = nWord e P.orders.length) ∧ (nWord e P.orders.length).length ≤ 42 ∧
  (∀ i, i < (nWord e P.orders.length).length → -1000 ≤ gt (nWord e P.orders.length) i ∧ gt (nWord e P.orders.length) i ≤ 1000) := by
 have hn6 := hP.n6
 have h1 : ∀ i, i < e.length → 0 ≤ gt e i ∧ gt e i ≤ 7 := fun i hi => by
  have h2 := h.2 i (by rw [← h.1]; exact hi)
  have h3 := hP.ord7 i (by rw [← h.1]; exact hi)
  omega
 refine ⟨h1, by rw [h.1], ?_, fun i hi => ?_⟩
 ·have := nWord_len (e := e) (fun i => by
   by_cases hi : i < e.length
   ·exact (h1 i hi).2
   ·rw [gt_big (by omega)]; decide) P.orders.length
  omega
 ·have := WordN.nWord e P.orders.length (Nat.le_refl _) _ (gtMem hi)
  omega
theorem relPow_len {P : Pr} (hP : Valid P) {i : Nat} (hi : i < P.orders.length) : (relPow P i).length ≤ 50 := by
 have h1 := (vec_word hP (hP.pv i hi).1).2.2.1
 have h2 := hP.ord7 i hi
 unfold relPow
 rw [List.length_append, List.length_replicate, invWord_len]; omega
theorem relCon_len {P : Pr} (hP : Valid P) {i k : Nat} (hi : i < P.orders.length) (hk : k < P.orders.length - 1 - i) : (relCon P i k).length ≤ 50 := by
 have h1 := (vec_word hP ((hP.cv i hi).2 k hk).1).2.2.1
 unfold relCon
 rw [List.length_append, invWord_len]; simp; omega
theorem relTo_len {P : Pr} (hP : Valid P) : ∀ i, i ≤ P.orders.length → (relTo P i).length ≤ P.orders.length + 6 * i
 | 0, _ => by rw [relTo, relPs_len]; omega
 | i + 1, h => by
  have h1 := relTo_len hP i (by omega)
  have h2 := (hP.cv i (by omega)).1
  have := hP.n6
  rw [relTo, List.length_append, relCs_len]; omega
set_option maxRecDepth 100000 in
set_option maxHeartbeats 4000000 in
theorem relators_ok (P : Pr) (hP : Valid P) (w : World) (pv : Value) (Sp : Nat → Prop) (hpv : PresV Sp w pv P) :
  Calls Tryz.prog 152 #[pv] w (Ret w fun w' v => ∃ a n c, v = .tuple #[.slice a n c, .int .i64 0] ∧ RowsO w.heap.size w' (.slice a n c) (relsP P)) := by
 have hn6 := hP.n6
 have hpl : P.powers.length ≤ P.orders.length ∧ P.orders.length ≤ P.powers.length := by have := hP.pl; omega
 have hcl : P.conj.length ≤ P.orders.length ∧ P.orders.length ≤ P.conj.length := by have := hP.cl; omega
 obtain ⟨vo, vp, vc, rfl, h3⟩ := hpv
 obtain ⟨ao, capo, rfl, _, _⟩ := h3.o.shape
 obtain ⟨ap, capp, rfl, _, _⟩ := Sl.shape h3.p
 obtain ⟨ac, capc, rfl, _, _⟩ := Sl.shape h3.c
 have hg0 : Ext w (w.alloc (.cells #[.slice ao P.orders.length capo, .slice ap P.powers.length capp, .slice ac P.conj.length capc] 39)) := World.grownBy_alloc _ _ _
 have hs0 : (w.alloc (.cells #[.slice ao P.orders.length capo, .slice ap P.powers.length capp, .slice ac P.conj.length capc] 39)).heap.size = w.heap.size + 1 := by simp
 have h30 := h3.ext hg0
 obtain ⟨_, hco, hcp, hcc, _⟩ := Box3.made w 39 (.slice ao P.orders.length capo) (.slice ap P.powers.length capp) (.slice ac P.conj.length capc)
 have hpr := isPresentation_ok (w.alloc (.cells #[.slice ao P.orders.length capo, .slice ap P.powers.length capp, .slice ac P.conj.length capc] 39)) (.agg #[.slice ao P.orders.length capo, .slice ap P.powers.length capp, .slice ac P.conj.length capc]) P Sp ⟨_, _, _, rfl, h30⟩
 rw [validB_true hP] at hpr
 have hoi := h30.o
 have hpi := h30.p
 have hci := h30.c
 have HO := Lib.hid hP.ord7
 go_enter Tryz.func152, Tryz.ntmps152
 go_wp2_with fail
 refine Calls.mono hpr ?_
 rintro e1 w1 ⟨v1, rfl, hg1, rfl⟩
 clear hpr
 generalize hw0 : w.alloc (.cells #[.slice ao P.orders.length capo, .slice ap P.powers.length capp, .slice ac P.conj.length capc] 39) = w0 at *
 clear hw0
 have hc0 := hg1.cell hco (by simp)
 have HS := Lib.hid hs0; clear hs0
 have hs1 : w.heap.size ≤ w1.heap.size := by have := HS.out; have := hg1.size; omega
 go_wp2
 clear hc0
 go_loopw [4, 18] (fun ov iv wr => ∃ (i : Nat) (v4 : Value), v4 = ov ∧ iv = .int .i64 i ∧ i ≤ P.orders.length ∧ Ext w1 wr ∧ RowsO w1.heap.size wr v4 (relPs P i)) (fun _ iv _ => P.orders.length - (intOf iv).toNat)
 case atStart => exact ⟨0, _, rfl, rfl, by omega, Ext.refl _, SlO.nil _ _ _ _⟩
 case round =>
  obtain ⟨i, v4, rfl, rfl, hi, hg, hO⟩ := hrel
  have hgw := grown_trans hg1 hg
  have hrl := relPs_len P i
  obtain ⟨R, hR⟩ : ∃ R, R = relPs P i := ⟨_, rfl⟩
  rw [← hR] at hO hrl
  obtain ⟨a4, cap4, hv4, _, _⟩ := SlD.shape (hO.toD (by omega))
  subst hv4
  have hRl := Lib.hid hrl; clear hrl
  by_cases hlt : i < P.orders.length
  ·have hlt' : (i : Int) < P.orders.length := by omega
   obtain ⟨b, off, rfl, _, _, hc⟩ := Ints.at (hoi.ext hgw) i hlt
   obtain ⟨x, hx⟩ : ∃ x, x = (gt P.orders i).toNat := ⟨_, rfl⟩
   have hx0 := HO.out i hlt
   have hxe : gt P.orders i = (x : Int) := by omega
   have hx7 : 1 ≤ x ∧ x ≤ 1000 := by omega
   rw [hxe] at hc
   have hrel : relPow P i = List.replicate x ((i : Int) + 1) ++ invWord (nWord (gt P.powers i) P.orders.length) := by rw [hx]; rfl
   have hrl2 := relPow_len hP hlt
   have hvw := vec_word hP (hP.pv i hlt).1
   have hnx : relPs P (i + 1) = R ++ [relPow P i] := by rw [hR]; rfl
   have HX := Lib.hid (And.intro hrel (And.intro hrl2 (And.intro hvw hnx))); clear hrel hrl2 hvw hnx hx0 hx hxe hR
   have hi1 : (i : Int) < P.powers.length := by omega
   obtain ⟨bp, op, a2, cap2, rfl, _, _, hcpi, hrp⟩ := Rows2.at hpi i (by omega)
   have e1 : ∀ w', Ext w1 w' → w'.cell? ⟨w.heap.size, 1, none⟩ = some (.slice (some ⟨bp, op, none⟩) P.powers.length capp) := fun w' h => (grown_trans hg1 h).cell hcp (by simp)
   have e2 : ∀ w', Ext w1 w' → w'.cell? ⟨bp, op + i, none⟩ = some (.slice a2 (gt P.powers i).length cap2) := fun w' h => (grown_trans hg1 h).cell hcpi (by simp)
   have hrr := Ints.ext hrp hgw
   have hwi : IntKind.i64.wrap ((i : Int) + 1) = (i : Int) + 1 := IntWalk.i64_in _ (by omega)
   go_wp2
   have hgl : Ext wr (wr.alloc (.cells #[.int .i64 ((i : Int) + 1)] 2)).drew := grown_trans (World.grownBy_alloc _ _ _) (grown_drew _ _)
   have hlit := Ints.ext (ints_lit wr ((i : Int) + 1)) (grown_drew (wr.alloc (.cells #[.int .i64 ((i : Int) + 1)] 2)) none)
   go_region_held3 (fun w' => Ext w1 w') (first | exact grown_trans hg (grown_drew _ _) | exact grown_trans hg (by assumption) | exact hgw5 | exact grown_trans hg (grown_trans hgwL (World.grownBy_alloc _ _ _)))
    (first
     | (go_at_call 291; refine Calls.mono (Calls.rel2 (w0 := wr) (by assumption) (repeatI_ok _ _ ((i : Int) + 1) x Any (by first | exact hlit | exact Ints.ext hlit (by assumption) | exact Ints.ext hlit (grown_trans hgN2 hgI2)) hx7)) ?_; rintro eR wR ⟨vR, rfl, hgR, hgR2, hsR, hOR⟩; obtain ⟨gR, cR, hvR, _, _⟩ := hOR.form (by rw [List.length_replicate]; omega); rw [List.length_replicate] at hvR; subst hvR)
     | (go_at_call 293; refine Calls.mono (Calls.rel2 (w0 := wr) (by assumption) (normalWord_ok _ _ (gt P.powers i) Any (Ints.sub (Ints.ext hrr (by assumption)) (fun _ _ _ => trivial)) (by have := HX.out.2.2.1.1; rw [(hP.pv i hlt).1.1]; exact hn6) HX.out.2.2.1.1)) ?_; rintro eN wN ⟨vN, rfl, hgN, hgN2, hsN, hON⟩; rw [HX.out.2.2.1.2.1] at hON; have hNi := hON.ints (by have := HX.out.2.2.1.2.2.1; omega))
     | (go_at_call 292; refine Calls.mono (Calls.rel2 (w0 := wr) (by assumption) (invertWord_ok _ _ (nWord (gt P.powers i) P.orders.length) Any (by first | exact Ints.sub hNi (fun _ _ _ => trivial) | exact Ints.sub (Ints.ext hNi (by assumption)) (fun _ _ _ => trivial)) (by have := HX.out.2.2.1.2.2.1; omega) HX.out.2.2.1.2.2.2)) ?_; rintro eI wI ⟨vI, rfl, hgI, hgI2, hsI, hOI⟩; have hIi := hOI.ints (by rw [invWord_len]; have := HX.out.2.2.1.2.2.1; omega))
     | (refine step_app_list rfl _ _ rfl wr.heap.size gR cR x (List.replicate x ((i : Int) + 1)) (invWord (nWord (gt P.powers i) P.orders.length)) (List.length_replicate ..) rfl (by first | exact hOR.weak hsR | exact (hOR.weak hsR).ext0 (by assumption) | exact (hOR.weak hsR).ext0 (grown_trans hgN2 hgI2)) _ Any (by first | exact Ints.sub hIi (fun _ _ _ => trivial) | exact Ints.sub (Ints.ext hIi (by assumption)) (fun _ _ _ => trivial)) rfl (by rw [List.length_replicate, invWord_len]; have := HX.out.2.2.1.2.2.1; omega) (by first | exact hgI.size | exact hgR.size) ?_
        intro vL wL hOL hgL
        rw [← HX.out.1] at hOL
        have hYO : OwnIn (From wr.heap.size) wL vL (relPow P i) := OwnIn.of hOL (by have := HX.out.2.1; omega) (fun j h1 _ => h1)
        have hgwL : Ext wr wL := by
         have hgb : wr.heap.size ≤ gR := by have := (hOR.lt gR rfl).1; omega
         first | exact grown_own hgI hgL (fun j hj hlt => by cases hj; omega) | exact grown_own hgR hgL (fun j hj hlt => by cases hj; omega)
        obtain ⟨aL, cL, hvL, _, _⟩ := hYO.ints.shape
        subst hvL)
     | (refine step_app_row rfl _ _ rfl w1.heap.size wr wL _ _ R (relPow P i) rfl hO hgwL hYO rfl rfl (by have := hRl.out; omega) hg.size ?_; intro v5 w5 hO5 hg5 hg5b; have hgw5 : Ext w1 w5 := grown_own hg hg5 (fun j hj hlt => by have := (hO.lt j hj).1; omega)))
   rw [← HX.out.2.2.2] at hO5
   clear e1 e2 hgl hlit hO hc
   go_wp2
   go_roundw
   case rel => exact ⟨i + 1, v5, rfl, by go_num, by omega, hgw5, hO5⟩
   case measure => simp [intOf]; omega
  ·have hie : i = P.orders.length := by omega
   subst hie
   have hOT : RowsO w1.heap.size wr (.slice a4 R.length cap4) (relTo P 0) := by rw [hR] at hO ⊢; exact hO
   have hc0 := hgw.cell hco (by simp)
   clear hO hR
   go_wp2
   clear hc0
   go_loopw [4, 43] (fun ov iv wr => ∃ (i : Nat) (v4 : Value), v4 = ov ∧ iv = .int .i64 i ∧ i ≤ P.orders.length ∧ Ext w1 wr ∧ RowsO w1.heap.size wr v4 (relTo P i)) (fun _ iv _ => P.orders.length - (intOf iv).toNat)
   case atStart => exact ⟨0, _, rfl, rfl, by omega, hg, hOT⟩
   case round =>
    clear hOT hg hgw
    obtain ⟨i, v4, rfl, rfl, hi, hg, hO⟩ := hrel
    have hgw := grown_trans hg1 hg
    have hrl := relTo_len hP i hi
    by_cases hlt : i < P.orders.length
    ·have hlt' : (i : Int) < P.orders.length := by omega
     have hic : (i : Int) < P.conj.length := by omega
     have hcc' := hgw.cell hcc (by simp)
     obtain ⟨bc, oc, a2, cap2, rfl, _, _, hcc0, hrc⟩ := Rows3.at hci i (by omega)
     have hcci := hgw.cell hcc0 (by simp)
     have hcv := hP.cv i hlt
     have hO0 : RowsO w1.heap.size wr v4 (relTo P i ++ relCs P i 0) := by rw [relCs, List.append_nil]; exact hO
     have HCV := Lib.hid hcv; clear hcv hO
     go_wp2
     clear hcc' hcci
     go_loopw [4, 52] (fun ov kv wr => ∃ (k : Nat) (v4 : Value), v4 = ov ∧ kv = .int .i64 k ∧ k ≤ (gt P.conj i).length ∧ Ext w1 wr ∧ RowsO w1.heap.size wr v4 (relTo P i ++ relCs P i k)) (fun _ kv _ => (gt P.conj i).length - (intOf kv).toNat)
     case atStart => exact ⟨0, _, rfl, rfl, by omega, hg, hO0⟩
     case round =>
      clear hO0
      clear hg hgw
      obtain ⟨k, v4, rfl, rfl, hk, hg, hO⟩ := hrel
      have hgw := grown_trans hg1 hg
      have hlen := HCV.out.1
      have hLL : (relTo P i ++ relCs P i k).length ≤ 100 := by rw [List.length_append, relCs_len]; omega
      obtain ⟨R, hR⟩ : ∃ R, R = relTo P i ++ relCs P i k := ⟨_, rfl⟩
      rw [← hR] at hO hLL
      obtain ⟨a4, cap4, hv4, _, _⟩ := SlD.shape (hO.toD (by omega))
      subst hv4
      by_cases hltk : k < (gt P.conj i).length
      ·have hltk' : (k : Int) < (gt P.conj i).length := by omega
       obtain ⟨bk, ok, a3, cap3, rfl, _, _, hck0, hrk0⟩ := Rows2.at hrc k hltk
       have hck := hgw.cell hck0 (by simp)
       have hvk := (HCV.out.2 k (by omega)).1
       have hvw := vec_word hP hvk
       have hrl2 := relCon_len hP (k := k) hlt (by omega)
       have hik : i + k + 1 < P.orders.length := by omega
       have hnx : relTo P i ++ relCs P i (k + 1) = R ++ [relCon P i k] := by rw [hR, relCs, List.append_assoc]
       have hvl : (gt (gt P.conj i) k).length ≤ 6 := by rw [hvk.1]; exact hn6
       have HX := Lib.hid (And.intro hvw (And.intro hrl2 (And.intro hnx (And.intro hLL hvl)))); clear hvw hrl2 hnx hvk hR hlen hLL hvl
       have hw1 : IntKind.i64.wrap ((i : Int) + 1) = (i : Int) + 1 := IntWalk.i64_in _ (by omega)
       have hw2 : IntKind.i64.wrap ((i : Int) + k) = (i : Int) + k := IntWalk.i64_in _ (by omega)
       have hw3 : IntKind.i64.wrap ((i : Int) + k + 2) = (i : Int) + k + 2 := IntWalk.i64_in _ (by omega)
       have hw4 : IntKind.i64.wrap (-((i : Int) + 1)) = -((i : Int) + 1) := IntWalk.i64_in _ (by omega)
       go_wp2_with fail
       have hgl : Ext wr (wr.alloc (.cells #[.int .i64 (-((i : Int) + 1)), .int .i64 ((i : Int) + k + 2), .int .i64 ((i : Int) + 1)] 2)) := World.grownBy_alloc _ _ _
       have hOl : Own wr.heap.size (wr.alloc (.cells #[.int .i64 (-((i : Int) + 1)), .int .i64 ((i : Int) + k + 2), .int .i64 ((i : Int) + 1)] 2)) (.slice (some ⟨wr.heap.size, 0, none⟩) 3 3) [-((i : Int) + 1), (i : Int) + k + 2, (i : Int) + 1] := World.ownsRow_lit wr #[.int .i64 (-((i : Int) + 1)), .int .i64 ((i : Int) + k + 2), .int .i64 ((i : Int) + 1)] 3 (Nat.le_refl _) (by decide) rfl
       generalize hwl : wr.alloc (.cells #[.int .i64 (-((i : Int) + 1)), .int .i64 ((i : Int) + k + 2), .int .i64 ((i : Int) + 1)] 2) = wl at *
       clear hwl hw1 hw2 hw3 hw4 hck hck0
       refine Calls.mono (normalWord_ok wl _ (gt (gt P.conj i) k) Any (Ints.sub (Ints.ext hrk0 (grown_trans hgw hgl)) (fun _ _ _ => trivial)) HX.out.2.2.2.2 HX.out.1.1) ?_
       rintro eN wN ⟨vN, rfl, hgN, hON⟩
       rw [HX.out.1.2.1] at hON
       have hNi := hON.ints (by have := HX.out.1.2.2.1; omega)
       go_wp2_with fail
       refine Calls.mono (invertWord_ok wN _ (nWord (gt (gt P.conj i) k) P.orders.length) Any (Ints.sub hNi (fun _ _ _ => trivial)) (by have := HX.out.1.2.2.1; omega) HX.out.1.2.2.2) ?_
       rintro eI wI ⟨vI, rfl, hgI, hOI⟩
       have hIi := hOI.ints (by rw [invWord_len]; have := HX.out.1.2.2.1; omega)
       have hgNI := grown_trans hgN hgI
       have hOl2 := hOl.ext0 hgNI
       have hgwI := grown_trans hgl hgNI
       clear hON hNi hOI hgN hgI hOl hgl
       go_wp2_with (first | (at_builtin; refine wp_app_ints rfl _ _ rfl wr.heap.size _ _ rfl hOl2 _ _ rfl _ hIi (by rw [invWord_len]; have := HX.out.1.2.2.1; simp only [List.length_cons, List.length_nil]; omega) hgwI.size ?_; intro vL wL hOL hgL _; have hgwL : Ext wr wL := grown_own hgwI hgL (fun j hj hlt => by have := own_blk hj; omega); have hYO : OwnIn (From wr.heap.size) wL vL (relCon P i k) := OwnIn.of (l := relCon P i k) hOL (by have := HX.out.2.1; omega) (fun j h1 _ => h1); obtain ⟨aL, cL, hvL, _, _⟩ := hYO.ints.shape; subst hvL; clear hOL hOl2 hIi hgL hgwI) | (at_builtin; refine wp_app_row rfl _ _ rfl w1.heap.size wr wL _ _ R (relCon P i k) rfl hO hgwL hYO rfl rfl (by have := HX.out.2.2.2.1; omega) hg.size ?_; intro v5 w5 hO5 hg5 hg5b) | fail)
       have hgw5 : Ext w1 w5 := grown_own hg hg5 (fun j hj hlt => by have := (hO.lt j hj).1; omega)
       rw [← HX.out.2.2.1] at hO5
       clear hO hYO hg5 hg5b hgwL
       go_roundw
       case rel => exact ⟨k + 1, v5, rfl, by go_num, by omega, hgw5, hO5⟩
       case measure => simp [intOf]; omega
      ·have hke : k = (gt P.conj i).length := by omega
       subst hke
       have hOn : RowsO w1.heap.size wr (.slice a4 R.length cap4) (relTo P (i + 1)) := by rw [relTo, ← hR]; exact hO
       clear hO hR hlen hLL
       go_wp2
       go_roundw
       case rel => exact ⟨i + 1, _, rfl, by go_num, by omega, hg, hOn⟩
       case measure => simp [intOf]; omega
    ·have hie : i = P.orders.length := by omega
     subst hie
     have hfin : RowsO w.heap.size wr v4 (relsP P) := hO.weak (by omega)
     obtain ⟨az, capz, hvz, _, _⟩ := SlD.shape (hO.toD (by omega))
     subst hvz
     clear hO
     go_wp2
     go_ret2
     exact ⟨_, rfl, grown_trans hg0 hgw, _, _, _, rfl, hfin⟩
end Go.Proofs.YtmjkoejegfjbbaaGreat
namespace Go.Proofs.YtmjkoejegfjbbaaGreat
open Go.RowKit
set_option maxRecDepth 100000 in
set_option maxHeartbeats 1000000 in
theorem indexJ_ok (l : List Int) (x : Int) (w : World) (v : Value) (S : Nat → Prop) (hv : Ints S w v l) :
  Calls Tryz.prog 294 #[v, .int .i64 x] w (Ret w fun _ r => ∃ k : Int, r = .int .i64 k ∧ (0 ≤ k ↔ x ∈ l)) := by
 obtain ⟨a, c, rfl, _, _⟩ := hv.shape
 have HV := Lib.hid hv; clear hv
 go_enter Tryz.func294, Tryz.ntmps294
 go_wp2
 go_loopw [8] (fun iv wr => ∃ i : Nat, iv = .int .i64 i ∧ i ≤ l.length ∧ Ext w wr ∧ Hid (∀ j, j < i → gt l j ≠ x)) (fun iv _ => l.length - (intOf iv).toNat)
 case atStart => exact ⟨0, by go_num, by omega, Ext.refl _, Lib.hid (fun j hj => by omega)⟩
 case round =>
  obtain ⟨i, rfl, hi, hg, hN⟩ := hrel
  by_cases hlt : i < l.length
  ·have hlt' : (i : Int) < l.length := by omega
   obtain ⟨b, o, hab, _, _, hc⟩ := Ints.at HV.out i hlt
   subst hab
   have hcr := hg.cell hc (by simp)
   by_cases he : gt l i = x
   ·have hd : x ∈ l := by rw [← he]; exact gt_mem hlt
    rw [he] at hcr
    have HD := Lib.hid hd; clear hd he hc
    go_wp2
    go_ret
    exact ⟨_, rfl, hg, (i : Int), rfl, ⟨fun _ => HD.out, fun _ => by omega⟩⟩
   ·have hne : (x == gt l i) = false := by
     have : ¬ x = gt l i := fun e => he e.symm
     simpa using this
    have hN2 : ∀ j, j < i + 1 → gt l j ≠ x := fun j hj => by
     rcases Nat.lt_succ_iff_lt_or_eq.1 hj with h | h
     ·exact hN.out j h
     ·rw [h]; exact he
    have HN2 := Lib.hid hN2; clear hN2 he hc hN
    generalize gt l i = y at *
    go_wp2
    clear hne
    go_roundw
    case rel => exact ⟨i + 1, by go_num, by omega, hg, HN2⟩
    case measure => simp [intOf]; omega
  ·have hie : i = l.length := by omega
   have hd : ¬ x ∈ l := fun h => by
    obtain ⟨j, hj, e⟩ := mem_gt h
    exact hN.out j (by omega) e
   have hnl : ¬ (i : Int) < l.length := by omega
   have HD := Lib.hid hd; clear hd hie hN
   go_wp2
   go_ret
   exact ⟨_, rfl, hg, -1, rfl, ⟨fun h => by omega, fun h => absurd h HD.out⟩⟩
set_option maxRecDepth 100000 in
set_option maxHeartbeats 1000000 in
theorem containsJ_ok (l : List Int) (x : Int) (w : World) (v : Value) (S : Nat → Prop) (hv : Ints S w v l) :
  Calls Tryz.prog 154 #[v, .int .i64 x] w (Ret w fun _ r => r = .bool (decide (x ∈ l))) := by
 have hi := indexJ_ok l x w v S hv
 obtain ⟨a, c, rfl, _, _⟩ := hv.shape
 go_enter Tryz.func154, Tryz.ntmps154
 go_wp2_with fail
 refine Calls.mono hi ?_
 rintro e1 w1 ⟨v1, rfl, hg1, k, rfl, hk⟩
 have HK := Lib.hid hk; clear hk hi
 go_wp2
 go_ret
 refine ⟨_, rfl, hg1, ?_⟩
 show Value.bool (decide (0 ≤ k)) = _
 rw [decide_eq_decide.2 HK.out]
theorem bak_of {N : Nat} {a l : List Int} (ha : BijL N a) (hl : l.length = N) (h : ∀ s, s < N → gt l (gt a s).toNat = (s : Int)) : l = bak a := by
 apply ext_gt
 ·rw [bak_len, ha.1, hl]
 ·intro t ht
  obtain ⟨s, hs, e⟩ := ha.sur t (by omega)
  have h1 := h s hs
  have h2 := gt_bak ha hs
  rw [e, Int.toNat_natCast] at h1 h2
  rw [h1, h2]
set_option maxRecDepth 100000 in
set_option maxHeartbeats 4000000 in
theorem inverseBijection_ok {N : Nat} {a : List Int} (ha : BijL N a) (hN : N ≤ 1000) (w : World) (v : Value) (S : Nat → Prop) (hv : Ints S w v a) :
  Calls Tryz.prog 161 #[v] w (Ret w fun w' r => Own w.heap.size w' r (bak a)) := by
 obtain ⟨av, cap, rfl, _, _⟩ := hv.shape
 have hla := ha.1
 rw [hla]
 have HV := Lib.hid (And.intro hv (And.intro ha hla)); clear hv ha hla
 go_enter Tryz.func161, Tryz.ntmps161
 go_wp2_with (at_make; refine wp_make_ints rfl _ _ rfl w.heap.size N w.heap.size rfl (N : Int) rfl rfl (by omega) (by omega) (Nat.le_refl _) ?_; intro w1 hO1 hg1 hlt1)
 go_loopw [11] (fun iv wr => ∃ (k : Nat) (l : List Int), iv = .int .i64 (k : Int) ∧ k ≤ N ∧ Ext w wr ∧ Own w.heap.size wr (.slice (some ⟨w.heap.size, 0, none⟩) N N) l ∧ Hid (l.length = N ∧ ∀ s, s < k → gt l (gt a s).toNat = (s : Int))) (fun iv _ => N - (intOf iv).toNat)
 case atStart => exact ⟨0, _, rfl, by omega, hg1, hO1, Lib.hid ⟨List.length_replicate, fun s hs => by omega⟩⟩
 case round =>
  clear hO1 hg1
  obtain ⟨k, l, rfl, hk, hg, hO, hS⟩ := hrel
  by_cases hlt : k < N
  ·have hlt' : (k : Int) < N := by omega
   have hka : k < a.length := by rw [HV.out.2.2]; exact hlt
   obtain ⟨b, off, hab, _, _, hc⟩ := Ints.at (HV.out.1.ext hg) k hka
   subst hab
   have hr := HV.out.2.1.2.1 k hlt
   obtain ⟨x, hx⟩ : ∃ x, x = (gt a k).toNat := ⟨_, rfl⟩
   have hxi : gt a k = (x : Int) := by omega
   rw [hxi] at hc
   have hxN : (x : Int) < N := by omega
   have hcel := hO.cell x (by have := hS.out.1; omega)
   have hfr := hO.frozen x
   obtain ⟨hO2, hgs⟩ := hO.store x (k : Int)
   have hgn : Ext w (wr.setCell ⟨w.heap.size, x, none⟩ (.int .i64 (k : Int))) := grown_own hg hgs (fun j hj hlt => by cases hj; omega)
   have hnx : (l.set x (k : Int)).length = N ∧ ∀ s, s < k + 1 → gt (l.set x (k : Int)) (gt a s).toNat = (s : Int) := by
    refine ⟨by rw [List.length_set]; exact hS.out.1, fun s hs => ?_⟩
    rcases Nat.lt_succ_iff_lt_or_eq.1 hs with h1 | h1
    ·have hsr := HV.out.2.1.2.1 s (by omega)
     have hne : ¬ x = (gt a s).toNat := fun e => by
      have := HV.out.2.1.2.2 s k (by omega) hlt (by omega)
      omega
     rw [gt_set_ne _ _ _ _ hne]; exact hS.out.2 s h1
    ·rw [h1, ← hx, gt_set_eq _ _ _ (by have := hS.out.1; omega)]
   have HB := Lib.hid (And.intro hO2 (And.intro hgn hnx)); clear hO2 hgn hnx hgs hx hxi hr
   generalize gt l x = z at hcel
   go_wp2
   go_roundw
   case rel => exact ⟨k + 1, _, by go_num, by omega, HB.out.2.1, HB.out.1, Lib.hid HB.out.2.2⟩
   case measure => simp [intOf]; omega
  ·have hke : k = N := by omega
   subst hke
   have hfin : l = bak a := bak_of HV.out.2.1 hS.out.1 hS.out.2
   have HF := Lib.hid hfin; clear hfin
   go_wp2
   go_ret
   exact ⟨_, rfl, hg, by rw [← HF.out]; exact hO⟩
def lwB (L : List (List Int)) (l : Int) : List Int := if l < 0 then bak (gt L (-l - 1).toNat) else gt L (l - 1).toNat
set_option maxRecDepth 100000 in
set_option maxHeartbeats 8000000 in
theorem composeWord_ok {N : Nat} {L : List (List Int)} (hL : ∀ b ∈ L, BijL N b) (hN : N ≤ 1000) (hLl : L.length ≤ 1000) {W : List Int} (hW : WordN L.length W) (w : World) (wv lv : Value) (S T : Nat → Prop) (hwv : Ints S w wv W) (hlv : Rows2 T w lv L) :
  Calls Tryz.prog 153 #[wv, lv, .int .i64 (N : Int)] w (Ret w fun w' r => Own w.heap.size w' r (evB N L W W.length)) := by
 obtain ⟨av, cap, rfl, _, _⟩ := hwv.shape
 obtain ⟨bv, capb, rfl, _, _⟩ := Sl.shape hlv
 have HV := Lib.hid (And.intro hwv (And.intro hlv (And.intro hL hW))); clear hwv hlv hL hW
 go_enter Tryz.func153, Tryz.ntmps153
 go_wp2_with (at_make; refine wp_make_ints rfl _ _ rfl w.heap.size N w.heap.size rfl (N : Int) rfl rfl (by omega) (by omega) (Nat.le_refl _) ?_; intro w1 hO1 hg1 hlt1)
 go_loopw [16] (fun iv wr => ∃ (k : Nat) (l : List Int), iv = .int .i64 (k : Int) ∧ k ≤ N ∧ Ext w wr ∧ Own w.heap.size wr (.slice (some ⟨w.heap.size, 0, none⟩) N N) l ∧ Hid (l.length = N ∧ ∀ s, s < k → gt l s = (s : Int))) (fun iv _ => N - (intOf iv).toNat)
 case atStart => exact ⟨0, _, rfl, by omega, hg1, hO1, Lib.hid ⟨List.length_replicate, fun s hs => by omega⟩⟩
 case round =>
  clear hO1 hg1
  obtain ⟨k, l, rfl, hk, hg, hO, hS⟩ := hrel
  by_cases hlt : k < N
  ·have hlt' : (k : Int) < N := by omega
   have hcel := hO.cell k (by have := hS.out.1; omega)
   have hfr := hO.frozen k
   obtain ⟨hO2, hgs⟩ := hO.store k (k : Int)
   have hgn : Ext w (wr.setCell ⟨w.heap.size, k, none⟩ (.int .i64 (k : Int))) := grown_own hg hgs (fun j hj hlt => by cases hj; omega)
   have hnx : (l.set k (k : Int)).length = N ∧ ∀ s, s < k + 1 → gt (l.set k (k : Int)) s = (s : Int) := by
    refine ⟨by rw [List.length_set]; exact hS.out.1, fun s hs => ?_⟩
    rcases Nat.lt_succ_iff_lt_or_eq.1 hs with h1 | h1
    ·rw [gt_set_ne _ _ _ _ (by omega)]; exact hS.out.2 s h1
    ·rw [h1, gt_set_eq _ _ _ (by have := hS.out.1; omega)]
   have HB := Lib.hid (And.intro hO2 (And.intro hgn hnx)); clear hO2 hgn hnx hgs
   generalize gt l k = z at hcel
   go_wp2
   go_roundw
   case rel => exact ⟨k + 1, _, by go_num, by omega, HB.out.2.1, HB.out.1, Lib.hid HB.out.2.2⟩
   case measure => simp [intOf]; omega
  ·have hke : k = N := by omega
   have hfin : l = selfL N := by
    apply ext_gt
    ·rw [selfL_len]; exact hS.out.1
    ·intro t ht
     have ht : t < N := by have := hS.out.1; omega
     rw [gt_selfL ht]; exact hS.out.2 t (by omega)
   rw [hfin] at hO
   have hO0 : Own w.heap.size wr (.slice (some ⟨w.heap.size, 0, none⟩) N N) (evB N L W 0) := hO
   clear hS hO hfin
   obtain ⟨wk, rfl⟩ : ∃ wk : World, wk = wr := ⟨_, rfl⟩
   have hnl : ¬ (k : Int) < N := by omega
   have HG := Lib.hid hg; clear hg hk hlt
   obtain ⟨M, hM⟩ : ∃ M, M = W.length := ⟨_, rfl⟩
   rw [← hM]
   have HM := Lib.hid hM; clear hM
   go_wp2
   clear hnl
   go_loopw [7, 26] (fun ov jv wr => ∃ (j : Nat) (v5 : Value), v5 = ov ∧ jv = .int .i64 (j : Int) ∧ j ≤ M ∧ Ext w wr ∧ Own w.heap.size wr v5 (evB N L W j)) (fun _ jv _ => M - (intOf jv).toNat)
   case atStart => exact ⟨0, _, rfl, rfl, by omega, HG.out, hO0⟩
   case round =>
    clear hO0 hke
    obtain ⟨j, v5, rfl, rfl, hj, hg, hO⟩ := hrel
    by_cases hlt : j < M
    ·have hlt' : (j : Int) < M := by omega
     have hjW : j < W.length := by rw [← HM.out]; exact hlt
     obtain ⟨xb, xo, hxa, _, _, hc⟩ := Ints.at (HV.out.1.ext hg) j hjW
     subst hxa
     have hwl := HV.out.2.2.2 _ (gtMem hjW)
     have hEb := evB_bij HV.out.2.2.1 HV.out.2.2.2 j (by omega)
     have hst : evB N L W (j + 1) = aft (evB N L W j) (lwB L (gt W j)) := rfl
     obtain ⟨x, hx⟩ : ∃ x, x = gt W j := ⟨_, rfl⟩
     rw [← hx] at hc hwl hst
     have hEi := hO.ints (by rw [hEb.1]; omega)
     obtain ⟨ea, ec, rfl, _, _⟩ := hEi.shape
     obtain ⟨q, hq⟩ : ∃ q : Nat, q = (if x < 0 then (-x - 1).toNat else (x - 1).toNat) := ⟨_, rfl⟩
     have hqi : (if x < 0 then -x else x) - 1 = (q : Int) := by rw [hq]; split <;> omega
     have hqL : q < L.length := by rw [hq]; split <;> omega
     have hqL' : (q : Int) < L.length := by omega
     obtain ⟨rb, ro, ra, rc, hab, _, _, hcr, hri⟩ := Rows2.at (Rows2.ext HV.out.2.1 hg) q hqL
     subst hab
     have hbb := HV.out.2.2.1 _ (gtMem hqL)
     have hlw : lwB L x = (if x < 0 then bak (gt L q) else gt L q) := by
      unfold lwB
      by_cases h0 : x < 0
      ·rw [if_pos h0, if_pos h0, hq, if_pos h0]
      ·rw [if_neg h0, if_neg h0, hq, if_neg h0]
     rw [hlw] at hst
     obtain ⟨b, hb⟩ : ∃ b, b = gt L q := ⟨_, rfl⟩
     rw [← hb] at hcr hri hbb hst
     have hww : IntKind.i64.wrap ((q : Int)) = (q : Int) := IntWalk.i64_in _ (by omega)
     have hab := abs_ok x wr (by omega)
     obtain ⟨ax, hax⟩ : ∃ ax, ax = (if x < 0 then -x else x) := ⟨_, rfl⟩
     rw [← hax] at hqi hab
     have hax1 : ax = (q : Int) + 1 := by omega
     subst hax1
     have hqq : (q : Int) + 1 - 1 = (q : Int) := by omega
     have HB := Lib.hid (And.intro hEb (And.intro hEi (And.intro hbb (And.intro hri (And.intro hst (And.intro hqL hab)))))); clear hEb hEi hbb hri hst hqL hab hx hq hqi hax hlw hb hO hwl
     obtain ⟨bl, hbl⟩ : ∃ bl, bl = b.length := ⟨_, rfl⟩
     rw [← hbl] at hcr
     obtain ⟨el, hel⟩ : ∃ el, el = (evB N L W j).length := ⟨_, rfl⟩
     rw [← hel]
     have HL2 := Lib.hid (And.intro hbl hel); clear hbl hel
     go_wp2_with fail
     refine Calls.mono HB.out.2.2.2.2.2.2 ?_
     rintro _ _ ⟨rfl, rfl⟩
     by_cases h0 : x < 0
     ·have hst := HB.out.2.2.2.2.1
      rw [if_pos h0] at hst
      have HS := Lib.hid hst; clear hst
      go_wp2_with fail
      refine Calls.mono (inverseBijection_ok HB.out.2.2.1 hN wr _ Any (by rw [HL2.out.1]; exact Ints.sub HB.out.2.2.2.1 (fun _ _ _ => trivial))) ?_
      rintro e6 w6 ⟨v6, rfl, hg6, hO6⟩
      have hkb := HB.out.2.2.1.bak
      have h6i := hO6.ints (by rw [hkb.1]; omega)
      have hg06 := grown_trans hg hg6
      have HK := Lib.hid (And.intro hkb h6i); clear hkb h6i hO6 hcr
      go_wp2_with fail
      refine Calls.mono (compose_ok (evB N L W j) (bak b) (by rw [HB.out.1.1]; exact hN) (fun t ht => by rw [HK.out.1.1]; exact HB.out.1.2.1 t (by rw [← HB.out.1.1]; exact ht)) w6 _ _ Any Any (by rw [HL2.out.2]; exact Ints.ext HB.out.2.1 hg6) HK.out.2) ?_
      rintro e7 w7 ⟨v7, rfl, hg7, hO7⟩
      have hgn := grown_trans hg06 hg7
      have hOn : Own w.heap.size w7 v7 (evB N L W (j + 1)) := by rw [HS.out]; exact hO7.weak hg06.size
      clear hO7
      go_wp2
      go_roundw
      case rel => exact ⟨j + 1, v7, rfl, by go_num, by omega, hgn, hOn⟩
      case measure => simp [intOf]; omega
     ·have hst := HB.out.2.2.2.2.1
      rw [if_neg h0] at hst
      have HS := Lib.hid hst; clear hst
      go_wp2_with fail
      refine Calls.mono (compose_ok (evB N L W j) b (by rw [HB.out.1.1]; exact hN) (fun t ht => by rw [HB.out.2.2.1.1]; exact HB.out.1.2.1 t (by rw [← HB.out.1.1]; exact ht)) wr _ _ Any Any (by rw [HL2.out.2]; exact HB.out.2.1) (by rw [HL2.out.1]; exact Ints.sub HB.out.2.2.2.1 (fun _ _ _ => trivial))) ?_
      rintro e7 w7 ⟨v7, rfl, hg7, hO7⟩
      have hgn := grown_trans hg hg7
      have hOn : Own w.heap.size w7 v7 (evB N L W (j + 1)) := by rw [HS.out]; exact hO7.weak hg.size
      clear hO7 hcr
      go_wp2
      go_roundw
      case rel => exact ⟨j + 1, v7, rfl, by go_num, by omega, hgn, hOn⟩
      case measure => simp [intOf]; omega
    ·have hjm : j = M := by omega
     have hfin : Own w.heap.size wr v5 (evB N L W M) := by rw [← hjm]; exact hO
     have HF := Lib.hid hfin; clear hfin hO
     have hnl : ¬ (j : Int) < M := by omega
     go_wp2
     go_ret
     refine ⟨_, rfl, hg, ?_⟩
     show Own w.heap.size wr v5 (evB N L W W.length)
     rw [← HM.out]; exact HF.out
end Go.Proofs.YtmjkoejegfjbbaaGreat
