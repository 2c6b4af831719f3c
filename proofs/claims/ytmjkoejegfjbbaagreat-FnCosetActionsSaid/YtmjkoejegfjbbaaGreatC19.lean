/-
  impl.transversal.
  The action on left cosets, the program's side: impl.cosetNumber, indexCode, CosetNumber, Transversal, CosetAction.
  The action on left cosets, the reference's side: spec.l14Number, CosetAction.
  Bijections, the program's side: isBijection, compose, inverseBijection, IsBijection, ComposeBijections.
  spec.CosetAction.
  impl.CosetAction; Transversal and CosetNumber where all goes well.
-/
import Derived.Test.YtmjkoejegfjbbaaGreatC12
import Derived.Test.YtmjkoejegfjbbaaGreatC15
import Derived.Test.YtmjkoejegfjbbaaGreatC17
import Derived.Test.YtmjkoejegfjbbaaGreatC18
import Derived.Test.YtmjkoejegfjbbaaGreatC2
import Derived.Test.YtmjkoejegfjbbaaGreatC3
import Derived.Test.YtmjkoejegfjbbaaGreatC4
import Derived.Test.YtmjkoejegfjbbaaGreatC5
import Derived.Test.YtmjkoejegfjbbaaGreatC8
import Derived.Test.YtmjkoejegfjbbaaGreatC9
import Derived.StillTailTactics
namespace Go.Proofs.YtmjkoejegfjbbaaGreat
open Go.RowKit
theorem trT_snoc (P : Pr) (l : List Nat) (i : Nat) : trT P (l ++ [i]) = trS P (trT P l) i := by unfold trT; rw [List.foldl_append]; rfl
theorem trS_len (P : Pr) (out : List (List Int)) (i : Nat) : (trS P out i).length = out.length * ordN' P i := by
 unfold trS
 exact flatMap_len' _ _ _ (fun x _ => by rw [List.length_map, List.length_range])
theorem trT_len (P : Pr) (h7 : ∀ i, i < P.orders.length → ordN' P i ≤ 7) : ∀ l : List Nat, (∀ i ∈ l, i < P.orders.length) → (trT P l.reverse).length ≤ 7 ^ l.length
 | [], _ => by simp [trT]
 | i :: l, h => by
  rw [List.reverse_cons, trT_snoc, trS_len, List.length_cons, Nat.pow_succ]
  exact Nat.mul_le_mul (trT_len P h7 l (fun j hj => h j (List.mem_cons_of_mem _ hj))) (h7 i (h i (List.mem_cons_self ..)))
theorem trT_row (P : Pr) : ∀ l : List Nat, ∀ x ∈ trT P l.reverse, x.length = P.orders.length
 | [], x, hx => by
  have : x = zeros P.orders.length := by simpa [trT] using hx
  rw [this]; simp [zeros]
 | i :: l, x, hx => by
  rw [List.reverse_cons, trT_snoc] at hx
  unfold trS at hx
  obtain ⟨y, hy, hx⟩ := List.mem_flatMap.1 hx
  obtain ⟨e, _, rfl⟩ := List.mem_map.1 hx
  rw [List.length_set]; exact trT_row P l y hy
theorem trT_bd (P : Pr) (h7 : ∀ i, i < P.orders.length → ordN' P i ≤ 7) (l : List Nat) (hl : l.length ≤ 6) (h : ∀ i ∈ l, i < P.orders.length) : (trT P l).length ≤ 117649 ∧ ∀ x ∈ trT P l, x.length = P.orders.length := by
 have h1 := trT_len P h7 l.reverse (fun i hi => h i (List.mem_reverse.1 hi))
 have h2 := trT_row P l.reverse
 rw [List.reverse_reverse] at h1 h2
 rw [List.length_reverse] at h1
 exact ⟨Nat.le_trans h1 (Nat.pow_le_pow_right (by decide) hl), h2⟩
set_option maxRecDepth 100000 in
set_option maxHeartbeats 4000000 in
theorem transversal_ok (P : Pr) (G : Grp P) (w : World) (p uv : Value) (U : List (List Int)) (Sp Su : Nat → Prop) (hp : PresP Sp w p P) (hu : Rows2 Su w uv U) (hU : SubB P U) :
  Calls Tryz.prog 204 #[p, uv] w (Ret w fun w' v => RowsO w.heap.size w' v (trT P (frI P U))) := by
 have hP := G.v
 have hn6 := hP.n6
 obtain ⟨pb, po, rfl⟩ := hp.shape
 obtain ⟨ao, capo, hco0, hoi⟩ := hp.ordAt
 obtain ⟨au, capu, rfl, _, _⟩ := Sl.shape hu
 have hul : U.length ≤ 6 := by have := G.sub_len hU; omega
 have hUz : ∀ z ∈ U, dep z < z.length := fun z hz => by
  have h1 := (G.seq_facts (G.subB hU)).1
  rw [← hU.2] at h1
  have := h1.1 z hz; rw [this.1.1]; exact this.2.1
 have hord : ∀ i, i < P.orders.length → gt P.orders i = ((ordN' P i : Nat) : Int) ∧ ordN' P i ≤ 7 := fun i hi => by
  have := hP.ord7 i hi; unfold ordN'; omega
 have hfi : ∀ i ∈ frI P U, i < P.orders.length := fun i hi => (frI_mem.1 hi).1
 have hfl : (frI P U).length ≤ 6 := by
  have := frT_len U P.orders.length
  have e : frT U P.orders.length = frI P U := rfl
  rw [e] at this; omega
 have hbd : ∀ k, (trT P ((frI P U).take k)).length ≤ 117649 ∧ ∀ x ∈ trT P ((frI P U).take k), x.length = P.orders.length := fun k =>
  trT_bd P (fun i hi => (hord i hi).2) _ (by rw [List.length_take]; omega) (fun i hi => hfi i (List.mem_of_mem_take hi))
 obtain ⟨m, hm⟩ : ∃ m, m = (frI P U).length := ⟨_, rfl⟩
 rw [← hm] at hfl
 have HB := Lib.hid (And.intro hbd (And.intro hord (And.intro hfi hm))); clear hbd hord hfi hm hU
 go_enter Tryz.func204, Tryz.ntmps204
 go_wp2_with (first | (at_make; refine wp_make_ints rfl _ _ rfl w.heap.size P.orders.length w.heap.size rfl _ rfl rfl rfl (by omega) (Nat.le_refl _) ?_; intro w1 ho1 hg1 hlt1) | fail)
 have hz1 : OwnIn (From w.heap.size) w1 (.slice (some ⟨w.heap.size, 0, none⟩) P.orders.length P.orders.length) (zeros P.orders.length) := OwnIn.of ho1 (by simp [zeros]; omega) (fun j h1 _ => h1)
 have hO1 := rowsOne hz1 hg1.size
 have hga : Ext w1 (w1.alloc (.cells #[.slice (some ⟨w.heap.size, 0, none⟩) P.orders.length P.orders.length] 36)) := World.grownBy_alloc _ _ _
 have hg2 := grown_trans hg1 hga
 clear ho1 hz1 hga hg1 hlt1
 generalize hw2 : w1.alloc (.cells #[.slice (some ⟨w.heap.size, 0, none⟩) P.orders.length P.orders.length] 36) = w2 at *
 clear hw2
 refine Calls.mono (otherIndices_ok P hn6 w2 _ _ U Sp Su (hp.ext hg2) (Rows2.ext hu hg2) hUz hul) ?_
 rintro e3 w3 ⟨iv, rfl, hg3, hV3⟩
 have hg03 := grown_trans hg2 hg3
 have hO3 := SlO.ext rdOwn hO1 hg3
 clear hO1 hg2 hg3 hUz
 have hivs : ∃ az capz, iv = .slice az m capz := by
  rcases hV3.form with ⟨h1, h2⟩ | ⟨g, cp, h1, _⟩
  ·have h3 : m = 0 := by unfold idxV at h2; rw [List.map_eq_nil_iff] at h2; rw [HB.out.2.2.2, h2]; rfl
   exact ⟨none, 0, by rw [h1, h3]⟩
  ·exact ⟨_, _, by rw [h1]; unfold idxV; rw [List.length_map, ← HB.out.2.2.2]⟩
 obtain ⟨ai, capi, rfl⟩ := hivs
 have hIi : Ints Any w3 (.slice ai m capi) ((frI P U).map (fun i : Nat => (i : Int))) := by
  have e : idxV (frI P U) = ((frI P U).map (fun i : Nat => (i : Int))).map (Value.int .i64) := by unfold idxV; rw [List.map_map]; rfl
  rw [e] at hV3
  exact ints_of_ownV hV3 (by rw [List.length_map, ← HB.out.2.2.2]; omega) (fun _ _ => trivial)
 have HI := Lib.hid hIi; clear hIi hV3
 have hO3 : RowsO w.heap.size w3 _ (trT P ((frI P U).take 0)) := hO3
 go_wp2
 go_loopw [5, 24] (fun ov jv wr => ∃ (k : Nat) (v5 : Value), v5 = ov ∧ jv = .int .i64 k ∧ k ≤ m ∧ Ext w3 wr ∧ RowsO w.heap.size wr v5 (trT P ((frI P U).take k))) (fun _ jv _ => m - (intOf jv).toNat)
 case atStart => exact ⟨0, _, rfl, rfl, by omega, Ext.refl _, hO3⟩
 case round =>
  clear hO3
  obtain ⟨k, v5, rfl, rfl, hk, hg, hO⟩ := hrel
  by_cases hlt : k < m
  ·have hlt' : (k : Int) < m := by omega
   have hkl : k < (frI P U).length := by rw [← HB.out.2.2.2]; exact hlt
   obtain ⟨bi, oi, hai, _, _, hci⟩ := Ints.at (Ints.ext HI.out hg) k (by rw [List.length_map]; exact hkl)
   subst hai
   rw [gt_map _ _ _ hkl] at hci
   obtain ⟨i, hi⟩ : ∃ i, i = gt (frI P U) k := ⟨_, rfl⟩
   have hin : i < P.orders.length := by rw [hi]; exact HB.out.2.2.1 _ (gtMem hkl)
   obtain ⟨ho1, ho7⟩ := HB.out.2.1 i hin
   obtain ⟨o, ho⟩ : ∃ o, o = ordN' P i := ⟨_, rfl⟩
   obtain ⟨X, hX⟩ : ∃ X, X = trT P ((frI P U).take k) := ⟨_, rfl⟩
   have hXb := HB.out.1 k
   have hXn : trT P ((frI P U).take (k + 1)) = X.flatMap (fun x => (List.range o).map (fun e : Nat => x.set i (e : Int))) := by
    rw [take_succ_gt _ k hkl, trT_snoc, ← hX, ← hi, ho]; rfl
   have hXb2 := HB.out.1 (k + 1)
   rw [hXn] at hXb2
   rw [← hi] at hci
   rw [← ho] at ho1 ho7
   rw [← hX] at hO hXb
   have hXr := RowsD.rows (SlO.toD hO (by omega))
   obtain ⟨ax, capx, hv5, _⟩ := Sl.shape hXr
   subst hv5
   obtain ⟨wo, rfl⟩ : ∃ wo : World, wo = wr := ⟨_, rfl⟩
   have hgw := grown_trans hg03 hg
   have hXr2 : Rows2 Any wo (.slice ax X.length capx) X := Rows2.sub hXr (fun _ _ _ => trivial)
   obtain ⟨bo, oo, hao, _, _, hcod⟩ := Ints.at (hoi.ext hgw) i hin
   subst hao
   rw [ho1] at hcod
   have hc0 := hgw.cell hco0 (by simp)
   have hin' : (i : Int) < P.orders.length := by omega
   have HX := Lib.hid (And.intro hXn (And.intro hXb (And.intro hXb2 (And.intro hXr2 (And.intro hc0 hcod))))); clear hXn hXb hXb2 hXr2 hXr hc0 hcod hX hi ho ho1 hO hkl
   have hXl : X.length ≤ 117649 := HX.out.2.1.1
   go_wp2
   clear hci
   go_loopw [8, 30] (fun nv jv wr => ∃ (j : Nat) (v8 : Value), v8 = nv ∧ jv = .int .i64 j ∧ j ≤ X.length ∧ Ext wo wr ∧ RowsO wo.heap.size wr v8 ((X.take j).flatMap (fun x => (List.range o).map (fun e : Nat => x.set i (e : Int))))) (fun _ jv _ => X.length - (intOf jv).toNat)
   case atStart => exact ⟨0, _, rfl, rfl, by omega, Ext.refl _, SlO.nil _ _ _ _⟩
   case round =>
    obtain ⟨j, v8, rfl, rfl, hj, hgj, hA⟩ := hrel
    by_cases hjl : j < X.length
    ·have hjl' : (j : Int) < X.length := by omega
     obtain ⟨bx, ox, ar, cr, hax, _, _, hcx, hxi⟩ := Rows2.at HX.out.2.2.2.1 j hjl
     subst hax
     have hcx := hgj.cell hcx (by simp)
     have hxl := HX.out.2.1.2 _ (gtMem hjl)
     have hc0 := hgj.cell HX.out.2.2.2.2.1 (by simp)
     have hcod := hgj.cell HX.out.2.2.2.2.2 (by simp)
     have hst : (X.take (j + 1)).flatMap (fun x => (List.range o).map (fun e : Nat => x.set i (e : Int))) = (X.take j).flatMap (fun x => (List.range o).map (fun e : Nat => x.set i (e : Int))) ++ (List.range o).map (fun e : Nat => (gt X j).set i (e : Int)) := by
      rw [take_succ_gt X j hjl, List.flatMap_append, List.flatMap_singleton]
     have hpl : ((X.take j).flatMap (fun x => (List.range o).map (fun e : Nat => x.set i (e : Int)))).length ≤ 117649 * 7 := by
      rw [flatMap_len' _ _ o (fun x _ => by rw [List.length_map, List.length_range]), List.length_take]
      exact Nat.mul_le_mul (by omega) ho7
     obtain ⟨x, hx⟩ : ∃ x, x = gt X j := ⟨_, rfl⟩
     obtain ⟨L, hL⟩ : ∃ L, L = (X.take j).flatMap (fun x => (List.range o).map (fun e : Nat => x.set i (e : Int))) := ⟨_, rfl⟩
     rw [← hx] at hcx hxi hxl hst
     rw [← hL] at hst hpl hA
     have hxi2 : ∀ w', Ext wo w' → Ints Any w' (.slice ar x.length cr) x := fun w' h => Ints.sub (Ints.ext hxi h) (fun _ _ _ => trivial)
     obtain ⟨wj, rfl⟩ : ∃ wj : World, wj = wr := ⟨_, rfl⟩
     have HJ := Lib.hid (And.intro hst (And.intro hL (And.intro hx (And.intro hxi2 hxl)))); clear hst hL hx hxi2 hxi hxl
     go_wp2
     clear hc0 hcod hcx
     go_loopw [8, 41] (fun nv tv wr => ∃ (e : Nat) (v9 : Value), v9 = nv ∧ tv = .int .i64 e ∧ e ≤ o ∧ Ext wo wr ∧ RowsO wo.heap.size wr v9 (L ++ (List.range e).map (fun e : Nat => x.set i (e : Int)))) (fun _ tv _ => o - (intOf tv).toNat)
     case atStart => exact ⟨0, _, rfl, rfl, by omega, hgj, by rw [List.range_zero, List.map_nil, List.append_nil]; exact hA⟩
     case round =>
      clear hA
      obtain ⟨e, v9, rfl, rfl, he, hge, hA⟩ := hrel
      by_cases hel : e < o
      ·have hel' : (e : Int) < o := by omega
       have hst : L ++ (List.range (e + 1)).map (fun e : Nat => x.set i (e : Int)) = (L ++ (List.range e).map (fun e : Nat => x.set i (e : Int))) ++ [x.set i (e : Int)] := by
        rw [List.range_succ, List.map_append, List.append_assoc]; rfl
       have hll : (L ++ (List.range e).map (fun e : Nat => x.set i (e : Int))).length ≤ 1000000 := by
        rw [List.length_append, List.length_map, List.length_range]; omega
       obtain ⟨M, hM⟩ : ∃ M, M = L ++ (List.range e).map (fun e : Nat => x.set i (e : Int)) := ⟨_, rfl⟩
       rw [← hM] at hst hll hA
       have HE := Lib.hid hst; clear hst hM
       obtain ⟨wr0, rfl⟩ : ∃ wr0 : World, wr0 = wr := ⟨_, rfl⟩
       go_wp2_with fail
       refine Calls.mono (clone_ok wr0 _ x Any (HJ.out.2.2.2.1 wr0 hge) (by have := HJ.out.2.2.2.2; omega)) ?_
       rintro e6 w6 ⟨v6, rfl, hg6, hO6⟩
       have hxl := HJ.out.2.2.2.2
       obtain ⟨g6, c6, rfl, hb6, hlt6⟩ := hO6.form (by omega)
       have hcl := hO6.cell i (by omega)
       have hfz := hO6.frozen i
       have hs6 := hO6.store i (e : Int)
       have hxl' : (i : Int) < x.length := by omega
       have hYO : OwnIn (From wr0.heap.size) (w6.setCell ⟨g6, i, none⟩ (.int .i64 e)) (.slice (some ⟨g6, 0, none⟩) x.length c6) (x.set i (e : Int)) := OwnIn.of hs6.1 (by rw [List.length_set]; omega) (fun j h1 _ => h1)
       have hg7 : Ext wr0 (w6.setCell ⟨g6, i, none⟩ (.int .i64 e)) := grown_own hg6 hs6.2 (fun j hj hlt => by have := Option.some.inj hj; omega)
       have hsz : (w6.setCell ⟨g6, i, none⟩ (.int .i64 e)).heap.size = w6.heap.size := by simp [World.setCell]
       have HY := Lib.hid (And.intro hYO hsz); clear hYO hs6 hxl hsz
       go_wp2_with (first | (at_builtin; refine wp_app_row rfl _ _ rfl wo.heap.size wr0 (w6.setCell ⟨g6, i, none⟩ (.int .i64 e)) v9 _ M (x.set i (e : Int)) rfl hA hg7 HY.out.1 rfl (by rw [HY.out.2]; rfl) hll hge.size ?_; intro v8 w8 hO8 hg8 _) | fail)
       have hgn : Ext wo w8 := grown_own hge hg8 (fun j hj hlt => by have := (hA.lt j hj).1; omega)
       go_roundw
       case rel => exact ⟨e + 1, v8, rfl, by go_num, by omega, hgn, by rw [HE.out]; exact hO8⟩
       case measure => simp [intOf]; omega
      ·have heo : e = o := by omega
       subst heo
       have hfin : RowsO wo.heap.size wr v9 ((X.take (j + 1)).flatMap (fun x => (List.range e).map (fun e : Nat => x.set i (e : Int)))) := by rw [HJ.out.1]; exact hA
       have HF := Lib.hid hfin; clear hfin hA
       have hgn := hge
       go_wp2
       go_roundw
       case rel => exact ⟨j + 1, v9, rfl, by go_num, by omega, hgn, HF.out⟩
       case measure => simp [intOf]; omega
    ·have hje : j = X.length := by omega
     subst hje
     rw [List.take_length] at hA
     have hfin : RowsO w.heap.size wr v8 (trT P ((frI P U).take (k + 1))) := by rw [HX.out.1]; exact hA.weak hgw.size
     have HF := Lib.hid hfin; clear hfin hA
     have hgn := grown_trans hg hgj
     go_wp2
     go_roundw
     case rel => exact ⟨k + 1, v8, rfl, by go_num, by omega, hgn, HF.out⟩
     case measure => simp [intOf]; omega
  ·have hke : k = m := by omega
   subst hke
   have hfin : RowsO w.heap.size wr v5 (trT P (frI P U)) := by
    have e : (frI P U).take k = frI P U := by rw [HB.out.2.2.2]; exact List.take_length
    rw [e] at hO; exact hO
   have HF := Lib.hid hfin; clear hfin hO
   have hgw := grown_trans hg03 hg
   go_wp2
   go_ret
   exact ⟨_, rfl, hgw, HF.out⟩
end Go.Proofs.YtmjkoejegfjbbaaGreat
namespace Go.Proofs.YtmjkoejegfjbbaaGreat
open Go.RowKit
theorem frI_le6 {P : Pr} (hn6 : P.orders.length ≤ 6) (U : List (List Int)) : (frI P U).length ≤ 6 := by
 have h := frT_len U P.orders.length
 have e : frT U P.orders.length = frI P U := rfl
 rw [e] at h; omega
theorem nmR_take {P : Pr} (G : Grp P) (U : List (List Int)) {Y : List Int} (hY : Vec P.orders Y) :
  (∀ k, nmR P ((frI P U).take k).reverse Y ≤ 117649) ∧ (∀ k, k < (frI P U).length → nmR P ((frI P U).take (k + 1)).reverse Y = nmR P ((frI P U).take k).reverse Y * ordN' P (gt (frI P U) k) + (gt Y (gt (frI P U) k)).toNat) := by
 have hlt : ∀ k, ∀ i ∈ ((frI P U).take k).reverse, i < P.orders.length := fun k i hi => (frI_mem.1 (List.mem_of_mem_take (List.mem_reverse.1 hi))).1
 refine ⟨fun k => ?_, fun k hk => ?_⟩
 ·have h1 := nmR_lt hY _ (hlt k)
  have h2 := szR_le G _ (hlt k)
  have h3 : ((frI P U).take k).reverse.length ≤ 6 := by rw [List.length_reverse, List.length_take]; have := frI_le6 G.v.n6 U; omega
  have h4 : 7 ^ ((frI P U).take k).reverse.length ≤ 7 ^ 6 := Nat.pow_le_pow_right (by decide) h3
  have h5 : (7 : Nat) ^ 6 = 117649 := by decide
  omega
 ·rw [take_succ_gt _ k hk, List.reverse_append]; rfl
set_option maxRecDepth 100000 in
set_option maxHeartbeats 4000000 in
theorem cosetNumber_ok (P : Pr) (hr : rconsB P = true) (w : World) (p uv xv : Value) (U : List (List Int)) (X : List Int) (Sp Su Sx : Nat → Prop) (hp : PresP Sp w p P) (hu : Rows2 Su w uv U) (hx : Ints Sx w xv X) (hU : SubB P U) (hX : Vec P.orders X) :
  Calls Tryz.prog 205 #[p, uv, xv] w (Ret w fun _ v => v = .int .i64 ((cnV P U X : Nat) : Int)) := by
 have G := grp_of_r hr
 have hP := G.v
 have hn6 := hP.n6
 obtain ⟨pb, po, rfl⟩ := hp.shape
 obtain ⟨ao, capo, hco0, hoi⟩ := hp.ordAt
 obtain ⟨au, capu, rfl, _, _⟩ := Sl.shape hu
 obtain ⟨ax, capx, rfl, _, _⟩ := hx.shape
 have hul : U.length ≤ 6 := by have := G.sub_len hU; omega
 have h1 := (G.seq_facts (G.subB hU)).1
 rw [← hU.2] at h1
 have hUz : ∀ z ∈ U, dep z < z.length := fun z hz => by have := h1.1 z hz; rw [this.1.1]; exact this.2.1
 have hrep := representative_ok P G w (.pointer (some ⟨pb, po, none⟩)) _ _ U X Sp Su Sx hp hu h1 (by omega) hx hX
 have hoth := fun w' (h : Ext w w') => otherIndices_ok P hn6 w' (.pointer (some ⟨pb, po, none⟩)) (.slice au U.length capu) U Sp Su (hp.ext h) (Rows2.ext hu h) hUz hul
 have hcr : crOk P U X := ⟨⟨hr, hU⟩, hX⟩
 obtain ⟨m, hm⟩ : ∃ m, m = (frI P U).length := ⟨_, rfl⟩
 have hml := frI_le6 hn6 U
 rw [← hm] at hml
 have HH := Lib.hid (And.intro hU (And.intro hcr (And.intro hm (And.intro hoi hco0)))); clear hU hcr hm hoi hco0 hul h1 hUz hX hu hx hp
 go_enter Tryz.func205, Tryz.ntmps205
 go_wp2_with fail
 refine Calls.mono hrep ?_
 rintro e1 w1 ⟨v1, rfl, hg1, Y, hO, hR⟩
 clear hrep
 have hYV := hR.vec
 have hR' : RepTo P (cseq P (gU P U)) X (cseq P (gU P U)).length Y := by rw [← HH.out.1.2]; exact hR
 have hYe : crV P U X = Y := cr_ok HH.out.2.1 (G.rep_of_to HH.out.1 hR')
 have hYi := hO.ints (by rw [hYV.1]; omega)
 obtain ⟨ay, cy, rfl, _, _⟩ := hYi.shape
 have hoth1 := hoth w1 hg1
 have HY := Lib.hid (And.intro hYV (And.intro hYe hYi)); clear hYV hR' hYe hYi hO hR hoth
 go_wp2_with fail
 refine Calls.mono hoth1 ?_
 rintro e2 w2 ⟨iv, rfl, hg2, hV2⟩
 clear hoth1
 have hg02 := grown_trans hg1 hg2
 have hivs : ∃ az capz, iv = .slice az m capz := by
  rcases hV2.form with ⟨h1, h2⟩ | ⟨g, cp, h1, _⟩
  ·have h3 : m = 0 := by unfold idxV at h2; rw [List.map_eq_nil_iff] at h2; rw [HH.out.2.2.1, h2]; rfl
   exact ⟨none, 0, by rw [h1, h3]⟩
  ·exact ⟨_, _, by rw [h1]; unfold idxV; rw [List.length_map, ← HH.out.2.2.1]⟩
 obtain ⟨ai, capi, rfl⟩ := hivs
 have hIi : Ints Any w2 (.slice ai m capi) ((frI P U).map (fun i : Nat => (i : Int))) := by
  have e : idxV (frI P U) = ((frI P U).map (fun i : Nat => (i : Int))).map (Value.int .i64) := by unfold idxV; rw [List.map_map]; rfl
  rw [e] at hV2
  exact ints_of_ownV hV2 (by rw [List.length_map, ← HH.out.2.2.1]; omega) (fun _ _ => trivial)
 have HI := Lib.hid hIi; clear hIi hV2
 go_wp2
 go_loopw [8, 19] (fun ov jv wr => ∃ (k t : Nat), ov = .int .i64 (t : Int) ∧ jv = .int .i64 (k : Int) ∧ k ≤ m ∧ t ≤ 117649 ∧ Ext w2 wr ∧ Hid (t = nmR P ((frI P U).take k).reverse Y)) (fun _ jv _ => m - (intOf jv).toNat)
 case atStart => exact ⟨0, 0, rfl, rfl, by omega, by omega, Ext.refl _, Lib.hid (by rw [List.take_zero]; rfl)⟩
 case round =>
  obtain ⟨k, t, rfl, rfl, hk, ht, hg, hT⟩ := hrel
  have hgw := grown_trans hg02 hg
  by_cases hlt : k < m
  ·have hlt' : (k : Int) < m := by omega
   have hkl : k < (frI P U).length := by rw [← HH.out.2.2.1]; exact hlt
   obtain ⟨bi, oi, hai, _, _, hci⟩ := Ints.at (Ints.ext HI.out hg) k (by rw [List.length_map]; exact hkl)
   subst hai
   rw [gt_map _ _ _ hkl] at hci
   obtain ⟨hn1, hn2⟩ := nmR_take G U HY.out.1
   have hn1 := hn1 (k + 1)
   have hn2 := hn2 k hkl
   obtain ⟨i, hi⟩ : ∃ i, i = gt (frI P U) k := ⟨_, rfl⟩
   have hin : i < P.orders.length := by rw [hi]; exact (frI_mem.1 (gtMem hkl)).1
   have hyb := HY.out.1.2 i hin
   have ho7 := hP.ord7 i hin
   obtain ⟨bo, oo, hao, _, _, hcod⟩ := Ints.at (HH.out.2.2.2.1.ext hgw) i hin
   subst hao
   obtain ⟨by_, oy, hay, _, _, hcy⟩ := Ints.at (Ints.ext HY.out.2.2 (grown_trans hg2 hg)) i (by rw [HY.out.1.1]; exact hin)
   subst hay
   have hc0 := hgw.cell HH.out.2.2.2.2 (by simp)
   obtain ⟨o, ho⟩ : ∃ o : Nat, o = ordN' P i := ⟨_, rfl⟩
   obtain ⟨y, hy⟩ : ∃ y : Nat, y = (gt Y i).toNat := ⟨_, rfl⟩
   have hoi : gt P.orders i = (o : Int) := by rw [ho]; unfold ordN'; omega
   have hyi : gt Y i = (y : Int) := by omega
   rw [← hi, ← hT.out, ← ho, ← hy] at hn2
   rw [hn2] at hn1
   rw [← hi] at hci
   rw [hoi] at hcod
   rw [hyi] at hcy
   have hin' : (i : Int) < P.orders.length := by omega
   have hYl : (i : Int) < Y.length := by rw [HY.out.1.1]; omega
   obtain ⟨ti, hti⟩ : ∃ ti : Int, ti = (t : Int) := ⟨_, rfl⟩
   obtain ⟨oi', hoi'⟩ : ∃ oi' : Int, oi' = (o : Int) := ⟨_, rfl⟩
   obtain ⟨yi, hyi'⟩ : ∃ yi : Int, yi = (y : Int) := ⟨_, rfl⟩
   have hsum : ti * oi' + yi = ((t * o + y : Nat) : Int) := by rw [hti, hoi', hyi', Int.natCast_add, Int.natCast_mul]
   have hm0 : 0 ≤ ti * oi' := by rw [hti, hoi', ← Int.natCast_mul]; omega
   have hm1 : ti * oi' ≤ 117649 := by omega
   have hy0 : 0 ≤ yi := by omega
   have hy1 : yi ≤ 117649 := by omega
   rw [← hoi'] at hcod
   rw [← hyi'] at hcy
   rw [← hti]
   have HN := Lib.hid (And.intro hn2 (And.intro hsum hn1)); clear hn2 hsum hn1 hi ho hy hoi hyi hyb ho7 hkl hT hti hoi' hyi' ht
   go_wp2
   go_quiet (fail)
   go_wp2
   go_roundw
   case rel => exact ⟨k + 1, t * o + y, by rw [← HN.out.2.1], by go_num, by omega, HN.out.2.2, grown_trans hg (grown_drewN _ _ _), Lib.hid HN.out.1.symm⟩
   case measure => simp [intOf]; omega
  ·have hke : k = m := by omega
   have hfin : t = cnV P U X := by
    unfold cnV
    rw [hT.out, HY.out.2.1, hke, HH.out.2.2.1, List.take_length]
   have HF := Lib.hid hfin; clear hfin hT
   go_wp2
   go_ret
   exact ⟨_, rfl, hgw, by rw [← HF.out]; rfl⟩
set_option maxRecDepth 100000 in
set_option maxHeartbeats 4000000 in
theorem indexCode2_ok (P : Pr) (hr : rconsB P = true) (w : World) (p uv : Value) (U : List (List Int)) (Sp Su : Nat → Prop) (hp : PresP Sp w p P) (hu : Rows2 Su w uv U) (hU : SubB P U) :
  Calls Tryz.prog 202 #[p, uv] w (Ret w fun _ v => v = .int .i64 (if 128 < szR P (frI P U).reverse then 3 else 0)) := by
 have G := grp_of_r hr
 have hn6 := G.v.n6
 have hop := G.v.ordP_pos
 have h729' := G.v.le729
 have hidx := idx_div G hU
 obtain ⟨pb, po, rfl⟩ := hp.shape
 obtain ⟨au, capu, rfl, _, _⟩ := Sl.shape hu
 have hg1 : Ext w (w.alloc (.cells #[.slice au U.length capu] 32)) := World.grownBy_alloc _ _ _
 have hl := rows3One hu
 have hcon := areSubgroups_ok P _ _ _ [U] Sp Any (hp.ext hg1) hl
 have hulU : U.length ≤ P.orders.length := G.sub_len hU
 have HH := Lib.hid (And.intro hr (And.intro hU hl)); clear hr hU hl
 go_enter Tryz.func202, Tryz.ntmps202
 go_wp2_with fail
 refine Calls.mono hcon ?_
 rintro e1 w1 ⟨v1, rfl, hgA, r1, rfl, hr1⟩
 clear hcon
 obtain rfl : r1 = true := hr1.2 (by have := HH.out; simp only [List.mem_cons, List.mem_nil_iff, or_false]; exact ⟨this.1, fun u hu => by subst hu; exact this.2.1⟩)
 clear hr1
 have hg01 := grown_trans hg1 hgA
 clear hg1 hgA
 have hp1 := hp.ext hg01
 have hu1 := Rows2.ext hu hg01
 have hfac := G.seq_facts (G.subB HH.out.2.1)
 rw [← HH.out.2.1.2] at hfac
 have HF := Lib.hid (And.intro hfac hidx); clear hfac hidx
 go_wp2_with fail
 refine Calls.mono (orderOf_ok w1 _ P Sp G.v hp1) ?_
 rintro _ _ ⟨rfl, rfl⟩
 go_wp2_with fail
 refine Calls.mono (sizeOf_ok P G.v w1 _ _ U Sp Su hp1 hu1 HF.out.1.1 (by omega)) ?_
 rintro e2 w2 ⟨v2, rfl, hg2, rfl⟩
 have h729 := prodU_729 G.v HF.out.1.1 U.length (Nat.le_refl _)
 have hix := HF.out.2
 have h7 : ordP P ≤ 729 := h729'
 obtain ⟨y, hy⟩ : ∃ y, y = prodU P U U.length := ⟨_, rfl⟩
 obtain ⟨x, hx⟩ : ∃ x, x = ordP P := ⟨_, rfl⟩
 obtain ⟨z, hz⟩ : ∃ z, z = szR P (frI P U).reverse := ⟨_, rfl⟩
 rw [← hy] at h729 hix ⊢
 rw [← hx] at hop hix h7 ⊢
 rw [← hz] at hix
 have hy0 : y ≠ 0 := by omega
 have htd : x.tdiv y = x / y := Int.tdiv_eq_ediv_of_nonneg (by omega)
 have hd1 : 0 ≤ x / y := Int.ediv_nonneg (by omega) (by omega)
 have hd2 : x / y ≤ 729 := Int.le_trans (Int.ediv_le_self _ (by omega)) (by omega)
 have hwr : IntKind.i64.wrap (x / y) = x / y := IntWalk.i64_in _ (by omega)
 by_cases hbig : 128 < z
 ·have hng : 128 < x / y := by omega
  have hbz : 128 < szR P (frI P U).reverse := by rw [← hz]; exact hbig
  have HBZ := Lib.hid hbz
  clear hx hy hz hix h729' hbig hbz
  go_wp2
  go_ret
  exact ⟨_, rfl, grown_trans hg01 hg2, rfl⟩
 ·have hng : ¬ 128 < x / y := by omega
  have hbz : ¬ 128 < szR P (frI P U).reverse := by rw [← hz]; exact hbig
  have HBZ := Lib.hid hbz
  clear hx hy hz hix h729' hbig hbz
  go_wp2
  go_ret
  exact ⟨_, rfl, grown_trans hg01 hg2, rfl⟩
end Go.Proofs.YtmjkoejegfjbbaaGreat
namespace Go.Proofs.YtmjkoejegfjbbaaGreat
open Go.RowKit
set_option maxRecDepth 100000 in
set_option maxHeartbeats 4000000 in
theorem l14Number_ok (P : Pr) (hr : rconsB P = true) (w : World) (pv uv xv : Value) (U : List (List Int)) (X : List Int) (Sp Su Sx : Nat → Prop) (hpv : PresV Sp w pv P) (hu : Rows2 Su w uv U) (hx : Ints Sx w xv X) (hU : SubB P U) (hX : Vec P.orders X) :
  Calls Tryz.prog 210 #[pv, uv, xv] w (Ret w fun _ v => v = .int .i64 ((cnV P U X : Nat) : Int)) := by
 have G := grp_of_r hr
 have hP := G.v
 have hn6 := hP.n6
 have S := G.subB hU
 have hfl := frI_le6 hn6 U
 have hcr : crOk P U X := ⟨⟨hr, hU⟩, hX⟩
 obtain ⟨vo, vp, vc, rfl, h3⟩ := hpv
 have hp0 := PresP.box h3 39
 have hg0 : Ext w (w.alloc (.cells #[vo, vp, vc] 39)) := World.grownBy_alloc _ _ _
 have hu0 := Rows2.ext hu hg0
 have hx0 := Ints.ext hx hg0
 obtain ⟨au, capu, rfl, _, _⟩ := Sl.shape hu
 obtain ⟨ax, capx, rfl, _, _⟩ := hx.shape
 obtain ⟨vo6, vp6, vc6, _, _, hc0, hc1, hc2, h36⟩ := hp0.at
 simp only [Nat.zero_add] at hc1 hc2
 obtain ⟨ao, co, hvo, _, _⟩ := h36.o.shape
 subst hvo
 have hord := h36.o
 have hbx : ∀ w', Ext (w.alloc (.cells #[vo, vp, vc] 39)) w' → w'.cell? ⟨w.heap.size, 0, none⟩ = some (.slice ao P.orders.length co) ∧ w'.cell? ⟨w.heap.size, 1, none⟩ = some vp6 ∧ w'.cell? ⟨w.heap.size, 2, none⟩ = some vc6 := fun w' h => ⟨h.cell hc0 (by simp), h.cell hc1 (by simp), h.cell hc2 (by simp)⟩
 have hpx : ∀ w', Ext (w.alloc (.cells #[vo, vp, vc] 39)) w' → PresV Any w' (.agg #[.slice ao P.orders.length co, vp6, vc6]) P := fun w' h => ⟨_, _, _, rfl, Pres3.ext h36 h⟩
 have hsi : Calls Tryz.prog 330 #[.agg #[.slice ao P.orders.length co, vp6, vc6], .slice au U.length capu, .slice ax X.length capx] (w.alloc (.cells #[vo, vp, vc] 39)) (Ret (w.alloc (.cells #[vo, vp, vc] 39)) fun w' v => ∃ Y, Own (w.alloc (.cells #[vo, vp, vc] 39)).heap.size w' v Y ∧ IsRep P U X Y) :=
  l12Sift_ok P G _ _ _ _ (gU P U) X Any Su Sx S (hpx _ (Ext.refl _)) (by rw [← hU.2]; exact hu0) hx0 hX
 have hfr : ∀ w', Ext (w.alloc (.cells #[vo, vp, vc] 39)) w' → Calls Tryz.prog 318 #[.agg #[.slice ao P.orders.length co, vp6, vc6], .slice au U.length capu] w' (Ret w' fun w'' v => Own w'.heap.size w'' v (natI (frI P U))) := fun w' h => l14Free_ok P G w' _ _ U Any Su (hpx w' h) (Rows2.ext hu0 h) hU
 obtain ⟨m, hm⟩ : ∃ m, m = (frI P U).length := ⟨_, rfl⟩
 rw [← hm] at hfl
 have HB := Lib.hid (And.intro hbx (And.intro hfr (And.intro hord (And.intro hcr hm)))); clear hbx hfr hord hcr hm hpx hp0 hu hx hu0 hx0 h36 S
 go_enter Tryz.func210, Tryz.ntmps210
 go_wp2_with fail
 clear hc0 hc1 hc2
 generalize hw0 : w.alloc (.cells #[vo, vp, vc] 39) = w0 at *
 clear hw0
 refine Calls.mono hsi ?_
 rintro e1 w1 ⟨v1, rfl, hg1, Y, hO, hR⟩
 clear hsi
 have hYV := hR.1
 have hYe : crV P U X = Y := cr_ok HB.out.2.2.2.1 hR
 have hYi := hO.ints (by rw [hYV.1]; omega)
 obtain ⟨ay, cy, rfl, _, _⟩ := hYi.shape
 have HY := Lib.hid (And.intro hYV (And.intro hYe hYi)); clear hYV hYe hYi hO hR
 obtain ⟨b0_, b1_, b2_⟩ := HB.out.1 w1 hg1
 go_wp2_with fail
 clear b0_ b1_ b2_
 refine Calls.mono (HB.out.2.1 w1 hg1) ?_
 rintro e2 w2 ⟨fv, rfl, hg2, hF2⟩
 have hFi : Ints Any w2 fv (natI (frI P U)) := ints_of_own hF2 (by rw [natI_len, ← HB.out.2.2.2.2]; omega) (fun _ _ => trivial)
 obtain ⟨fa, fc, hfe, _, _⟩ := hFi.shape
 rw [natI_len, ← HB.out.2.2.2.2] at hfe
 subst hfe
 have hg02 := grown_trans hg1 hg2
 have HF := Lib.hid hFi; clear hFi hF2
 go_wp2
 go_loopw [9, 10] (fun ov iv wr => ∃ (k t : Nat), ov = .int .i64 (t : Int) ∧ iv = .int .i64 (k : Int) ∧ k ≤ m ∧ t ≤ 117649 ∧ Ext w2 wr ∧ Hid (t = nmR P ((frI P U).take k).reverse Y)) (fun _ iv _ => m - (intOf iv).toNat)
 case atStart => exact ⟨0, 0, rfl, rfl, by omega, by omega, Ext.refl _, Lib.hid (by rw [List.take_zero]; rfl)⟩
 case round =>
  obtain ⟨k, t, rfl, rfl, hk, ht, hg, hT⟩ := hrel
  have hgw := grown_trans hg02 hg
  by_cases hlt : k < m
  ·have hlt' : (k : Int) < m := by omega
   have hkl : k < (frI P U).length := by rw [← HB.out.2.2.2.2]; exact hlt
   obtain ⟨bi, oi, hai, _, _, hci⟩ := Ints.at (Ints.ext HF.out hg) k (by rw [natI_len]; exact hkl)
   subst hai
   have hgf : gt (natI (frI P U)) k = ((gt (frI P U) k : Nat) : Int) := gt_map _ _ _ hkl
   rw [hgf] at hci
   obtain ⟨hn1, hn2⟩ := nmR_take G U HY.out.1
   have hn1 := hn1 (k + 1)
   have hn2 := hn2 k hkl
   obtain ⟨i, hi⟩ : ∃ i, i = gt (frI P U) k := ⟨_, rfl⟩
   have hin : i < P.orders.length := by rw [hi]; exact (frI_mem.1 (gtMem hkl)).1
   have hyb := HY.out.1.2 i hin
   have ho7 := hP.ord7 i hin
   obtain ⟨bo, oo, hao, _, _, hcod⟩ := Ints.at (HB.out.2.2.1.ext hgw) i hin
   subst hao
   obtain ⟨by_, oy, hay, _, _, hcy⟩ := Ints.at (Ints.ext HY.out.2.2 (grown_trans hg2 hg)) i (by rw [HY.out.1.1]; exact hin)
   subst hay
   obtain ⟨hc0, -, -⟩ := HB.out.1 wr hgw
   obtain ⟨o, ho⟩ : ∃ o : Nat, o = ordN' P i := ⟨_, rfl⟩
   obtain ⟨y, hy⟩ : ∃ y : Nat, y = (gt Y i).toNat := ⟨_, rfl⟩
   have hoi : gt P.orders i = (o : Int) := by rw [ho]; unfold ordN'; omega
   have hyi : gt Y i = (y : Int) := by omega
   rw [← hi, ← hT.out, ← ho, ← hy] at hn2
   rw [hn2] at hn1
   rw [← hi] at hci
   rw [hoi] at hcod
   rw [hyi] at hcy
   have hin' : (i : Int) < P.orders.length := by omega
   have hYl : (i : Int) < Y.length := by rw [HY.out.1.1]; omega
   obtain ⟨ti, hti⟩ : ∃ ti : Int, ti = (t : Int) := ⟨_, rfl⟩
   obtain ⟨oi', hoi'⟩ : ∃ oi' : Int, oi' = (o : Int) := ⟨_, rfl⟩
   obtain ⟨yi, hyi'⟩ : ∃ yi : Int, yi = (y : Int) := ⟨_, rfl⟩
   have hsum : ti * oi' + yi = ((t * o + y : Nat) : Int) := by rw [hti, hoi', hyi', Int.natCast_add, Int.natCast_mul]
   have hm0 : 0 ≤ ti * oi' := by rw [hti, hoi', ← Int.natCast_mul]; omega
   have hm1 : ti * oi' ≤ 117649 := by omega
   have hy0 : 0 ≤ yi := by omega
   have hy1 : yi ≤ 117649 := by omega
   rw [← hoi'] at hcod
   rw [← hyi'] at hcy
   rw [← hti]
   have HN := Lib.hid (And.intro hn2 (And.intro hsum hn1)); clear hn2 hsum hn1 hi ho hy hoi hyi hyb ho7 hkl hT hti hoi' hyi' ht hgf
   go_wp2
   go_quiet (fail)
   go_wp2
   go_roundw
   case rel => exact ⟨k + 1, t * o + y, by rw [← HN.out.2.1], by go_num, by omega, HN.out.2.2, grown_trans hg (grown_drewN _ _ _), Lib.hid HN.out.1.symm⟩
   case measure => simp [intOf]; omega
  ·have hke : k = m := by omega
   have hfin : t = cnV P U X := by
    unfold cnV
    rw [hT.out, HY.out.2.1, hke, HB.out.2.2.2.2, List.take_length]
   have HF2 := Lib.hid hfin; clear hfin hT
   go_wp2
   go_ret
   exact ⟨_, rfl, grown_trans hg0 hgw, by rw [← HF2.out]; rfl⟩
end Go.Proofs.YtmjkoejegfjbbaaGreat
namespace Go.Proofs.YtmjkoejegfjbbaaGreat
open Go.RowKit
theorem wp_make_cap {ops : Array Oper} {rest : List Oper} {o : Oper} {a : Act} {Q : Exit → Act → World → Prop} {w : World} (hgd : o.guard = none) (l c : Operand)
  (ho : o.op = Op.makeSlice 36 l c) (base n : Nat) (C : Int) (hl : a.eval l = .int .i64 0) (hc : a.eval c = .int .i64 C) (hC : C = n) (hn : n ≤ 2147483648) (hbase : base ≤ w.heap.size)
  (h : ∀ v w', Own base w' v [] → Ext w w' → wpList Tryz.prog ops Q rest (a.put o.dst v) w') :
  wpList Tryz.prog ops Q (o :: rest) a w := by
 obtain ⟨i0, hi, hz0, hz1, hz2⟩ := info_parts Tryz.infoInt
 refine wpList_make_own w hgd l c 36 ho base 2 i0 (.int .i64 0) 1 und_ints hi hz0 hz1 .i64 .i64 C n hl hc hC (by rw [hz2]; omega) (by unfold maxLen; omega) hbase ?_
 intro w' h1 h2
 exact h _ w' h1 h2
theorem own_nil0 {B H : Nat} {w : World} (hB : B ≤ w.heap.size) (hH : w.heap.size = H) : Own B (w.alloc (.cells #[] 2)) (.slice (some ⟨H, 0, none⟩) 0 0) [] := by
 subst hH; exact World.ownsRow_lit w #[] 0 hB (by decide) rfl
def SeenB (a : List Int) (k : Nat) (l : List Bool) : Prop := l.length = a.length ∧ (∀ j, j < a.length → (gt l j = true ↔ ∃ s, s < k ∧ gt a s = (j : Int))) ∧ (∀ s, s < k → 0 ≤ gt a s ∧ gt a s < a.length) ∧ ∀ s t, s < k → t < k → gt a s = gt a t → s = t
theorem SeenB.zero (a : List Int) : SeenB a 0 (List.replicate a.length false) :=
 ⟨List.length_replicate, fun j hj => by
  have : gt (List.replicate a.length false) j = false := by simp [gt, hj]
  rw [this]
  exact ⟨fun h => (by cases h), fun ⟨s, hs, _⟩ => absurd hs (by omega)⟩, fun s hs => by omega, fun s t hs => by omega⟩
theorem SeenB.step {a : List Int} {k : Nat} {l : List Bool} (h : SeenB a k l) (hr : 0 ≤ gt a k ∧ gt a k < a.length) (hn : gt l (gt a k).toNat = false) : SeenB a (k + 1) (l.set (gt a k).toNat true) := by
 obtain ⟨h1, h2, h3, h4⟩ := h
 have hnew : ∀ s, s < k → gt a s ≠ gt a k := fun s hs e => by
  have := (h2 (gt a k).toNat (by omega)).2 ⟨s, hs, by omega⟩
  rw [hn] at this; cases this
 refine ⟨by rw [List.length_set]; exact h1, fun j hj => ?_, fun s hs => ?_, fun s t hs ht e => ?_⟩
 ·by_cases e : (gt a k).toNat = j
  ·subst e
   rw [gt_set_eq _ _ _ (by omega)]
   exact ⟨fun _ => ⟨k, by omega, by omega⟩, fun _ => rfl⟩
  ·rw [gt_set_ne _ _ _ _ e, h2 j hj]
   constructor
   ·rintro ⟨s, hs, e2⟩; exact ⟨s, by omega, e2⟩
   ·rintro ⟨s, hs, e2⟩
    rcases Nat.lt_succ_iff_lt_or_eq.1 hs with h5 | h5
    ·exact ⟨s, h5, e2⟩
    ·subst h5; exact absurd (by omega) e
 ·rcases Nat.lt_succ_iff_lt_or_eq.1 hs with h5 | h5
  ·exact h3 s h5
  ·subst h5; exact hr
 ·rcases Nat.lt_succ_iff_lt_or_eq.1 hs with h5 | h5 <;> rcases Nat.lt_succ_iff_lt_or_eq.1 ht with h6 | h6
  ·exact h4 s t h5 h6 e
  ·subst h6; exact absurd e (hnew s h5)
  ·subst h5; exact absurd e.symm (hnew t h6)
  ·omega
theorem SeenB.bad2 {a : List Int} {k : Nat} {l : List Bool} (h : SeenB a k l) (hk : k < a.length) (hr : 0 ≤ gt a k ∧ gt a k < a.length) (hn : gt l (gt a k).toNat = true) : ¬ BijL a.length a := fun hb => by
 obtain ⟨s, hs, e⟩ := (h.2.1 (gt a k).toNat (by omega)).1 hn
 have := hb.2.2 s k (by omega) hk (by omega)
 omega
theorem SeenB.done {a : List Int} {l : List Bool} (h : SeenB a a.length l) : BijL a.length a := ⟨rfl, h.2.2.1, h.2.2.2⟩
open Classical in
set_option maxRecDepth 100000 in
set_option maxHeartbeats 4000000 in
theorem isBijection_ok (a : List Int) (hl : a.length ≤ 1000000) (w : World) (v : Value) (S : Nat → Prop) (hv : Ints S w v a) :
  Calls Tryz.prog 151 #[v] w (Ret w fun _ r => r = .bool (decide (BijL a.length a))) := by
 obtain ⟨av, cap, rfl, _, _⟩ := hv.shape
 obtain ⟨N, hN⟩ : ∃ N, N = a.length := ⟨_, rfl⟩
 have hN2 : N ≤ 1000000 := by omega
 have HV := Lib.hid (And.intro hv hN); clear hv hl
 rw [← hN]
 clear hN
 go_enter Tryz.func151, Tryz.ntmps151
 go_wp2_with (at_make; refine wp_make_bools rfl _ _ rfl w.heap.size N w.heap.size rfl (N : Int) rfl rfl (by omega) (by omega) (Nat.le_refl _) ?_; intro w1 hM1 hg1 hlt1)
 have hM1 : BOwn w.heap.size w1 (.slice (some ⟨w.heap.size, 0, none⟩) N N) (List.replicate N false) := hM1
 have hgb1 : w1.grownBy w1 (some w.heap.size) := grown_refl _ _
 go_loopw [11] (fun iv wr => ∃ (k : Nat) (l : List Bool), iv = .int .i64 (k : Int) ∧ k ≤ N ∧ Ext w wr ∧ BOwn w.heap.size wr (.slice (some ⟨w.heap.size, 0, none⟩) N N) l ∧ Hid (SeenB a k l)) (fun iv _ => N - (intOf iv).toNat)
 case atStart => exact ⟨0, _, rfl, by omega, hg1, hM1, Lib.hid (by rw [HV.out.2]; exact SeenB.zero a)⟩
 case round =>
  clear hM1 hgb1
  obtain ⟨k, l, rfl, hk, hg, hO, hS⟩ := hrel
  by_cases hlt : k < N
  ·have hlt' : (k : Int) < N := by omega
   have hka : k < a.length := by rw [← HV.out.2]; exact hlt
   obtain ⟨b, off, hab, _, _, hc⟩ := Ints.at (HV.out.1.ext hg) k hka
   subst hab
   obtain ⟨x, hx⟩ : ∃ x, x = gt a k := ⟨_, rfl⟩
   rw [← hx] at hc
   have hww : IntKind.i64.wrap ((N : Int) - 1) = (N : Int) - 1 := IntWalk.i64_in _ (by omega)
   by_cases hr : 0 ≤ x ∧ x < (N : Int)
   ·have hin : inB x 0 ((N : Int) - 1) = true := by unfold inB; simp; omega
    have hll := hS.out.1
    have hcel := hO.cell x.toNat (by rw [hll, ← HV.out.2]; omega)
    have hfr := hO.frozen x.toNat
    have hxN := hr.2
    have hx0 := hr.1
    obtain ⟨s, hs⟩ : ∃ s, s = gt l x.toNat := ⟨_, rfl⟩
    rw [← hs] at hcel
    cases s with
    | true =>
     have hbad : ¬ BijL N a := by
      have h1 : 0 ≤ gt a k ∧ gt a k < a.length := by rw [← hx, ← HV.out.2]; exact hr
      have h2 := SeenB.bad2 hS.out hka h1 (by rw [← hx]; exact hs.symm)
      rw [← HV.out.2] at h2; exact h2
     have HB := Lib.hid hbad; clear hbad hll hs hx hr
     go_wp2_with fail
     refine Calls.mono (inside_ok _ _ _ _) ?_
     rintro _ _ ⟨rfl, rfl⟩
     rw [hin]
     clear hin hww
     go_wp2
     go_ret
     exact ⟨_, rfl, hg, by rw [decide_eq_false HB.out]; rfl⟩
    | false =>
     have hnx : SeenB a (k + 1) (l.set x.toNat true) := by
      have h1 : 0 ≤ gt a k ∧ gt a k < a.length := by rw [← hx, ← HV.out.2]; exact hr
      have h2 := SeenB.step hS.out h1 (by rw [← hx]; exact hs.symm)
      rw [← hx] at h2; exact h2
     obtain ⟨hO2, hgs⟩ := hO.store x.toNat true
     have hgn : Ext w (wr.setCell ⟨w.heap.size, x.toNat, none⟩ (.bool true)) := grown_own hg hgs (fun j hj hlt => by cases hj; omega)
     have HB := Lib.hid (And.intro hnx (And.intro hO2 hgn)); clear hnx hO2 hgn hgs hll hs hx hr
     go_wp2_with fail
     refine Calls.mono (inside_ok _ _ _ _) ?_
     rintro _ _ ⟨rfl, rfl⟩
     rw [hin]
     clear hin hww
     go_wp2
     go_roundw
     case rel => exact ⟨k + 1, l.set x.toNat true, by go_num, by omega, HB.out.2.2, HB.out.2.1, Lib.hid HB.out.1⟩
     case measure => simp [intOf]; omega
   ·have hin : inB x 0 ((N : Int) - 1) = false := by unfold inB; simp; omega
    have hbad : ¬ BijL N a := fun hb => hr (by have := hb.2.1 k hlt; rw [hx]; exact this)
    have HB := Lib.hid hbad; clear hbad hx hr
    go_wp2_with fail
    refine Calls.mono (inside_ok _ _ _ _) ?_
    rintro _ _ ⟨rfl, rfl⟩
    rw [hin]
    clear hin hww
    go_wp2
    go_ret
    exact ⟨_, rfl, hg, by rw [decide_eq_false HB.out]; rfl⟩
  ·have hke : k = N := by omega
   have hfin : BijL N a := by
    have h1 := hS.out
    rw [hke, HV.out.2] at h1
    rw [HV.out.2]; exact h1.done
   have HF := Lib.hid hfin; clear hfin
   go_wp2
   go_ret
   exact ⟨_, rfl, hg, by rw [decide_eq_true HF.out]; rfl⟩
set_option maxRecDepth 100000 in
set_option maxHeartbeats 4000000 in
theorem compose_ok (a b : List Int) (hl : a.length ≤ 1000) (hab : ∀ t, t < a.length → 0 ≤ gt a t ∧ gt a t < b.length) (w : World) (v u : Value) (S T : Nat → Prop) (hv : Ints S w v a) (hu : Ints T w u b) :
  Calls Tryz.prog 162 #[v, u] w (Ret w fun w' r => Own w.heap.size w' r (aft a b)) := by
 obtain ⟨av, cap, rfl, _, _⟩ := hv.shape
 obtain ⟨bv, capb, rfl, _, _⟩ := hu.shape
 obtain ⟨N, hN⟩ : ∃ N, N = a.length := ⟨_, rfl⟩
 have hN2 : N ≤ 1000 := by omega
 rw [← hN]
 have HV := Lib.hid (And.intro hv (And.intro hu (And.intro hN hab))); clear hv hu hl hN hab
 go_enter Tryz.func162, Tryz.ntmps162
 go_wp2_with (at_make; refine wp_make_cap rfl _ _ rfl w.heap.size N (N : Int) rfl rfl (by omega) (by omega) (Nat.le_refl _) ?_; intro v1 w1 hO1 hg1)
 go_loopw [5, 13] (fun ov iv wr => ∃ (k : Nat) (v5 : Value), v5 = ov ∧ iv = .int .i64 (k : Int) ∧ k ≤ N ∧ Ext w wr ∧ Own w.heap.size wr v5 ((aft a b).take k)) (fun _ iv _ => N - (intOf iv).toNat)
 case atStart => exact ⟨0, _, rfl, rfl, by omega, hg1, by rw [List.take_zero]; exact hO1⟩
 case round =>
  clear hO1 hg1
  obtain ⟨k, v5, rfl, rfl, hk, hg, hO⟩ := hrel
  by_cases hlt : k < N
  ·have hlt' : (k : Int) < N := by omega
   have hka : k < a.length := by rw [← HV.out.2.2.1]; exact hlt
   obtain ⟨xb, xo, hxa, _, _, hc⟩ := Ints.at (HV.out.1.ext hg) k hka
   subst hxa
   have hr := HV.out.2.2.2 k hka
   obtain ⟨x, hx⟩ : ∃ x, x = (gt a k).toNat := ⟨_, rfl⟩
   have hxi : gt a k = (x : Int) := by omega
   rw [hxi] at hc
   have hxb : x < b.length := by omega
   obtain ⟨yb, yo, hya, _, _, hcy⟩ := Ints.at (HV.out.2.1.ext hg) x hxb
   subst hya
   have hst : (aft a b).take (k + 1) = (aft a b).take k ++ [gt b x] := by rw [take_succ_gt _ k (by rw [aft_len]; exact hka), gt_aft hka, hx]
   have hll : ((aft a b).take k).length ≤ 1000000 := by rw [List.length_take]; omega
   obtain ⟨y, hy⟩ : ∃ y, y = gt b x := ⟨_, rfl⟩
   rw [← hy] at hcy hst
   have hxb' : (x : Int) < b.length := by omega
   have HS := Lib.hid (And.intro hst hll); clear hst hll hx hxi hr hy hxb
   go_wp2_with (first | (at_builtin; refine wp_app_int rfl _ _ rfl w.heap.size v5 ((aft a b).take k) y rfl wr hO rfl rfl HS.out.2 hg.size ?_; intro v6 w6 hO6 hg6) | fail)
   have hgn : Ext w w6 := grown_own hg hg6 (fun j hj hlt => by have := (hO.lt j hj).1; omega)
   go_roundw
   case rel => exact ⟨k + 1, v6, rfl, by go_num, by omega, hgn, by rw [HS.out.1]; exact hO6⟩
   case measure => simp [intOf]; omega
  ·have hke : k = N := by omega
   have hfin : Own w.heap.size wr v5 (aft a b) := by
    have e : (aft a b).take k = aft a b := by rw [hke, HV.out.2.2.1, ← aft_len a b, List.take_length]
    rw [e] at hO; exact hO
   have HF := Lib.hid hfin; clear hfin hO
   go_wp2
   go_ret
   exact ⟨_, rfl, hg, HF.out⟩
end Go.Proofs.YtmjkoejegfjbbaaGreat
namespace Go.Proofs.YtmjkoejegfjbbaaGreat
open Go.RowKit
set_option maxRecDepth 100000 in
set_option maxHeartbeats 8000000 in
theorem sCa_ok (P : Pr) (w : World) (pv uv xv : Value) (U : List (List Int)) (X : List Int) (Sp Su Sx : Nat → Prop) (hpv : PresV Sp w pv P) (hu : Rows2 Su w uv U) (hx : Ints Sx w xv X) :
  Calls Tryz.prog 79 #[pv, uv, xv] w (Ret w fun w' v => ∃ a n c, v = .tuple #[.slice a n c, .int .i64 (caC P U X)] ∧ Ints Any w' (.slice a n c) (caL P U X)) := by
 obtain ⟨vo, vp, vc, rfl, h3⟩ := hpv
 have hp0 := PresP.box h3 39
 have hg0 : Ext w (w.alloc (.cells #[vo, vp, vc] 39)) := World.grownBy_alloc _ _ _
 have hu0 := Rows2.ext hu hg0
 have hx0 := Ints.ext hx hg0
 obtain ⟨au, capu, rfl, _, _⟩ := Sl.shape hu
 obtain ⟨ax, capx, rfl, _, _⟩ := hx.shape
 obtain ⟨vo6, vp6, vc6, _, _, hc0, hc1, hc2, h36⟩ := hp0.at
 simp only [Nat.zero_add] at hc1 hc2
 have hbx : ∀ w', Ext (w.alloc (.cells #[vo, vp, vc] 39)) w' → w'.cell? ⟨w.heap.size, 0, none⟩ = some vo6 ∧ w'.cell? ⟨w.heap.size, 1, none⟩ = some vp6 ∧ w'.cell? ⟨w.heap.size, 2, none⟩ = some vc6 := fun w' h => ⟨h.cell hc0 (by simp), h.cell hc1 (by simp), h.cell hc2 (by simp)⟩
 have hpx : ∀ w', Ext (w.alloc (.cells #[vo, vp, vc] 39)) w' → PresV Any w' (.agg #[vo6, vp6, vc6]) P := fun w' h => ⟨_, _, _, rfl, Pres3.ext h36 h⟩
 have hE := sIsSubgroup_ok P (w.alloc (.cells #[vo, vp, vc] 39)) _ _ U Any Su ⟨_, _, _, rfl, h36⟩ hu0
 have HB := Lib.hid (And.intro hbx hpx); clear hbx hpx hp0 hu hx h36
 go_enter Tryz.func79, Tryz.ntmps79
 go_wp2_with fail
 clear hc0 hc1 hc2
 generalize hw0 : w.alloc (.cells #[vo, vp, vc] 39) = w0 at *
 clear hw0
 refine Calls.mono hE ?_
 rintro e1 w1 ⟨v1, rfl, hg1, r1, rfl, hr1⟩
 clear hE
 obtain ⟨hb0, hb1, hb2⟩ := HB.out.1 w1 hg1
 cases r1 with
 | false =>
  obtain ⟨hc, hL⟩ := ca_bad (P := P) (U := U) (X := X) (fun h => by have := hr1.2 h.1; cases this)
  have HC := Lib.hid (And.intro hc hL); clear hc hL hr1
  go_wp2
  go_ret2
  exact ⟨_, rfl, grown_trans hg0 hg1, none, 0, 0, by rw [HC.out.1]; rfl, by rw [HC.out.2]; exact ⟨none, 0, rfl, ⟨by simp, by simp, fun _ => rfl⟩, fun i hi => by simp at hi⟩⟩
 | true =>
  have hok : oneOk P U := hr1.1 rfl
  have G := grp_of_r hok.1
  have hn6 := G.v.n6
  have hx1 := Ints.ext hx0 hg1
  have hel := l10Element_ok P G.v w1 (.agg #[vo6, vp6, vc6]) _ X Any Sx (HB.out.2 w1 hg1) hx1
  by_cases hX : Vec P.orders X
  ·rw [expB_vec.2 hX] at hel
   have hcr : crOk P U X := ⟨hok, hX⟩
   have hix := fun w' (h : Ext w0 w') => l14Index_ok P G w' (.agg #[vo6, vp6, vc6]) _ U Any Su (HB.out.2 w' h) (Rows2.ext hu0 h) hok.2
   have hiv := fun w' (h : Ext w0 w') => l10Inv_ok P G.v w' (.agg #[vo6, vp6, vc6]) _ X Any Sx (HB.out.2 w' h) (Ints.ext hx0 h) hX
   have hele := fun w' (h : Ext w0 w') (t : Nat) (ht : t ≤ 1000000) => l14Element_ok P G w' (.agg #[vo6, vp6, vc6]) _ U t Any Su (HB.out.2 w' h) (Rows2.ext hu0 h) hok.2 ht
   have hnum := fun w' (h : Ext w0 w') (zv : Value) (Z : List Int) (hz : Ints Any w' zv Z) (hZ : Vec P.orders Z) => l14Number_ok P hok.1 w' (.agg #[vo6, vp6, vc6]) _ zv U Z Any Su Any (HB.out.2 w' h) (Rows2.ext hu0 h) hz hok.2 hZ
   have hmul := fun w' (h : Ext w0 w') (yv zv : Value) (Y Z : List Int) (hy : Ints Any w' yv Y) (hz : Ints Any w' zv Z) (hY : Vec P.orders Y) (hZ : Vec P.orders Z) => l08Mul_ok P G.v w' (.agg #[vo6, vp6, vc6]) yv zv Y Z Any Any Any (HB.out.2 w' h) hy hz hY hZ
   have hzr : ∀ t, Vec P.orders (elR P (frI P U).reverse t) := fun t => (elR_zr G t).1
   obtain ⟨N, hN⟩ : ∃ N, N = szR P (frI P U).reverse := ⟨_, rfl⟩
   have h729 : N ≤ 117649 := by
    have h1 := szR_le G (frI P U).reverse (fun i hi => (frI_mem.1 (List.mem_reverse.1 hi)).1)
    have h2 : (7 : Nat) ^ (frI P U).reverse.length ≤ 7 ^ 6 := Nat.pow_le_pow_right (by decide) (by rw [List.length_reverse]; exact frI_le6 hn6 U)
    have h3 : (7 : Nat) ^ 6 = 117649 := by decide
    omega
   rw [← hN] at hix
   have hlen : (caL0 P U X).length = N := by rw [caL0_len, hN]; rfl
   have hstp : ∀ t, t < N → (caL0 P U X).take (t + 1) = (caL0 P U X).take t ++ [((cnV P U (rMul P (rInv P X) (elR P (frI P U).reverse t)) : Nat) : Int)] := fun t ht => by
    have ht2 : t < ixN P U := by show t < szR P (frI P U).reverse; omega
    rw [take_succ_gt _ t (by rw [caL0_len]; exact ht2), gt_caL0 ht2]; rfl
   have HC := Lib.hid (And.intro hcr (And.intro hX (And.intro hix (And.intro hiv (And.intro hele (And.intro hnum (And.intro hmul (And.intro hzr (And.intro hN (And.intro hlen hstp)))))))))); clear hcr hr1 hok hX hix hiv hele hnum hmul hzr hN hlen hstp
   go_wp2_with fail
   clear hb0 hb1 hb2
   refine Calls.mono hel ?_
   rintro e2 w2 ⟨v2, rfl, hg2, rfl⟩
   clear hel
   have hg02 := grown_trans hg1 hg2
   obtain ⟨hb0, hb1, hb2⟩ := HB.out.1 w2 hg02
   go_wp2_with fail
   clear hb0 hb1 hb2
   refine Calls.mono (HC.out.2.2.1 w2 hg02) ?_
   rintro e3 w3 ⟨v3, rfl, hg3, rfl⟩
   have hg03 := grown_trans hg02 hg3
   obtain ⟨hb0, hb1, hb2⟩ := HB.out.1 w3 hg03
   by_cases hbig : 128 < N
   ·obtain ⟨hc, hL⟩ := ca_big HC.out.1 (by show 128 < szR P (frI P U).reverse; rw [← HC.out.2.2.2.2.2.2.2.2.1]; exact hbig)
    have HC2 := Lib.hid (And.intro hc hL); clear hc hL
    have hbi : (128 : Int) < (N : Int) := by omega
    go_wp2
    go_ret2
    exact ⟨_, rfl, grown_trans hg0 hg03, none, 0, 0, by rw [HC2.out.1]; rfl, by rw [HC2.out.2]; exact ⟨none, 0, rfl, ⟨by simp, by simp, fun _ => rfl⟩, fun i hi => by simp at hi⟩⟩
   ·obtain ⟨hc, hL⟩ := ca_ok HC.out.1 (by show ¬ 128 < szR P (frI P U).reverse; rw [← HC.out.2.2.2.2.2.2.2.2.1]; exact hbig)
    have HC2 := Lib.hid (And.intro hc hL); clear hc hL
    have hbi : ¬ (128 : Int) < (N : Int) := by omega
    go_wp2_with fail
    clear hb0 hb1 hb2
    refine Calls.mono (HC.out.2.2.2.1 w3 hg03) ?_
    rintro e4 w4 ⟨yv, rfl, hg4, hY⟩
    have hYV := G.invV HC.out.2.1
    have hYi := hY.ints (by rw [hYV.1]; omega)
    obtain ⟨ya, yc, rfl, _, _⟩ := hYi.shape
    have hg04 := grown_trans hg03 hg4
    have hYx : ∀ w', Ext w4 w' → Ints Any w' (.slice ya (rInv P X).length yc) (rInv P X) := fun w' h => Ints.ext hYi h
    have HY := Lib.hid (And.intro hYV hYx); clear hYV hYi hY hYx
    obtain ⟨yl, hyl⟩ : ∃ yl, yl = (rInv P X).length := ⟨_, rfl⟩
    rw [← hyl] at HY ⊢
    clear hyl hbi
    go_wp2
    go_loopw [9, 10] (fun ov tv wr => ∃ (t : Nat) (v5 : Value), v5 = ov ∧ tv = .int .i64 (t : Int) ∧ t ≤ N ∧ Ext w4 wr ∧ Own w4.heap.size wr v5 ((caL0 P U X).take t)) (fun _ tv _ => N - (intOf tv).toNat)
    case atStart => exact ⟨0, _, rfl, rfl, by omega, World.grownBy_alloc _ _ _, by rw [List.take_zero]; exact own_nil0 (Nat.le_refl _) rfl⟩
    case round =>
     obtain ⟨t, v5, rfl, rfl, ht, hg, hA⟩ := hrel
     have hgw := grown_trans hg04 hg
     obtain ⟨b0_, b1_, b2_⟩ := HB.out.1 wr hgw
     go_wp2_with fail
     clear b0_ b1_ b2_
     refine Calls.mono (HC.out.2.2.1 wr hgw) ?_
     rintro e5 w5 ⟨v6, rfl, hg5, rfl⟩
     have hg05 := grown_trans hgw hg5
     have hg45 := grown_trans hg hg5
     have hA5 := hA.ext0 hg5
     by_cases hlt : t < N
     ·have hlt' : (t : Int) < N := by omega
      have hst := HC.out.2.2.2.2.2.2.2.2.2.2 t hlt
      have hzV := HC.out.2.2.2.2.2.2.2.1 t
      have hle := HC.out.2.2.2.2.1
      obtain ⟨x, hx⟩ : ∃ x, x = elR P (frI P U).reverse t := ⟨_, rfl⟩
      have hel : ∀ w', Ext w0 w' → Calls Tryz.prog 212 #[.agg #[vo6, vp6, vc6], .slice au U.length capu, .int .i64 (t : Int)] w' (Ret w' fun w'' v => Own w'.heap.size w'' v x) := fun w' h => by rw [hx]; exact hle w' h t (by omega)
      rw [← hx] at hst hzV
      have hmV := G.mulV HY.out.1 hzV
      obtain ⟨c, hc⟩ : ∃ c : Int, c = ((cnV P U (rMul P (rInv P X) x) : Nat) : Int) := ⟨_, rfl⟩
      rw [← hc] at hst
      have hll : ((caL0 P U X).take t).length ≤ 1000000 := by rw [List.length_take]; omega
      have HX := Lib.hid (And.intro hst (And.intro hzV (And.intro hel (And.intro hmV (And.intro hc hll))))); clear hst hzV hel hle hx hmV hc hll
      have e1 : ∀ w', Ext w4 w' → w'.cell? ⟨w.heap.size, 0, none⟩ = some vo6 := fun w' h => (HB.out.1 w' (grown_trans hg04 h)).1
      have e2 : ∀ w', Ext w4 w' → w'.cell? ⟨w.heap.size, 1, none⟩ = some vp6 := fun w' h => (HB.out.1 w' (grown_trans hg04 h)).2.1
      have e3 : ∀ w', Ext w4 w' → w'.cell? ⟨w.heap.size, 2, none⟩ = some vc6 := fun w' h => (HB.out.1 w' (grown_trans hg04 h)).2.2
      go_wp2
      go_region_held3 (fun w' => Ext w4 w') (first | exact grown_trans hg45 (grown_drew _ _) | assumption | exact grown_trans hgD (World.grownBy_alloc _ _ _))
       (first
        | (go_at_call 210; refine Calls.mono (Calls.rel2 (w0 := w4) (by assumption) (HC.out.2.2.2.2.2.1 _ (grown_trans hg04 (by assumption)) _ _ hMi HX.out.2.2.2.1)) ?_; rintro eD wD ⟨vD, rfl, hgD, hgD2, _, hvD⟩; rw [← HX.out.2.2.2.2.1] at hvD; subst hvD)
        | (go_at_call 211; refine Calls.mono (Calls.rel2 (w0 := w4) (by assumption) (HC.out.2.2.2.2.2.2.1 _ (grown_trans hg04 (by assumption)) _ _ _ _ (HY.out.2 _ (by assumption)) hEi HY.out.1 HX.out.2.1)) ?_; rintro eC wC ⟨vC, rfl, hgC, hgC2, _, hM⟩; have hMi := hM.ints (by rw [HX.out.2.2.2.1.1]; omega); obtain ⟨am, cm, hvM, _, _⟩ := hMi.shape; subst hvM)
        | (go_at_call 212; refine Calls.mono (Calls.rel2 (w0 := w4) (by assumption) (HX.out.2.2.1 _ (grown_trans hg04 (by assumption)))) ?_; rintro eE wE ⟨vE, rfl, hgE, hgE2, _, hEO⟩; have hEi := hEO.ints (by rw [HX.out.2.1.1]; omega); obtain ⟨ae, ce, hvE, _, _⟩ := hEi.shape; subst hvE)
        | (refine step_app_int rfl _ _ rfl w4.heap.size _ ((caL0 P U X).take t) c rfl wD (hA5.ext0 (grown_trans (grown_drew _ _) (grown_trans hgE2 (grown_trans hgC2 hgD2)))) rfl rfl HX.out.2.2.2.2.2 hgD.size ?_; intro v8 w8 hO8 hg8; have hgn8 : Ext w4 w8 := grown_own hgD hg8 (fun j hj hlt => by have := (hA.lt j hj).1; omega)))
      clear e1 e2 e3
      rw [← HX.out.1] at hO8
      go_wp2
      go_roundw
      case rel => exact ⟨t + 1, v8, rfl, by go_num, by omega, hgn8, hO8⟩
      case measure => simp [intOf]; omega
     ·have hte : t = N := by omega
      have hfin : Own w4.heap.size w5 v5 (caL0 P U X) := by
       have e : (caL0 P U X).take t = caL0 P U X := by rw [hte, ← HC.out.2.2.2.2.2.2.2.2.2.1, List.take_length]
       rw [e] at hA5; exact hA5
      have hfi := hfin.ints (by rw [HC.out.2.2.2.2.2.2.2.2.2.1]; omega)
      obtain ⟨fa, fc, rfl, _, _⟩ := hfi.shape
      have HF := Lib.hid hfi; clear hfin hfi hA hA5
      have hnl : ¬ (t : Int) < (N : Int) := by omega
      have hgf := grown_trans hg0 hg05
      go_wp2
      go_ret2
      exact ⟨_, rfl, hgf, _, _, _, by rw [HC2.out.1]; rfl, by rw [HC2.out.2]; exact HF.out⟩
  ·have hxf : expB P.orders X = false := by cases h : expB P.orders X with | false => rfl | true => exact absurd (expB_vec.1 h) hX
   rw [hxf] at hel
   obtain ⟨hc, hL⟩ := ca_bad (P := P) (U := U) (X := X) (fun h => hX h.2)
   have HC := Lib.hid (And.intro hc hL); clear hc hL hr1 hok hX hxf
   go_wp2_with fail
   clear hb0 hb1 hb2
   refine Calls.mono hel ?_
   rintro e2 w2 ⟨v2, rfl, hg2, rfl⟩
   clear hel
   go_wp2
   go_ret2
   exact ⟨_, rfl, grown_trans hg0 (grown_trans hg1 hg2), none, 0, 0, by rw [HC.out.1]; rfl, by rw [HC.out.2]; exact ⟨none, 0, rfl, ⟨by simp, by simp, fun _ => rfl⟩, fun i hi => by simp at hi⟩⟩
end Go.Proofs.YtmjkoejegfjbbaaGreat
namespace Go.Proofs.YtmjkoejegfjbbaaGreat
open Go.RowKit
set_option maxRecDepth 100000 in
set_option maxHeartbeats 4000000 in
theorem iCn_ok (P : Pr) (hr : rconsB P = true) (w : World) (pv uv xv : Value) (U : List (List Int)) (X : List Int) (Sp Su Sx : Nat → Prop) (hpv : PresV Sp w pv P) (hu : Rows2 Su w uv U) (hx : Ints Sx w xv X) (hU : SubB P U) (hX : Vec P.orders X) :
  Calls Tryz.prog 84 #[pv, uv, xv] w (Ret w fun _ v => v = .tuple #[.int .i64 ((cnV P U X : Nat) : Int), .int .i64 0]) := by
 have G := grp_of_r hr
 have hn6 := G.v.n6
 obtain ⟨vo, vp, vc, rfl, h3⟩ := hpv
 have hp0 := PresP.box h3 39
 have hg0 : Ext w (w.alloc (.cells #[vo, vp, vc] 39)) := World.grownBy_alloc _ _ _
 have hs0 : (w.alloc (.cells #[vo, vp, vc] 39)).heap.size = w.heap.size + 1 := by simp
 have hu0 := Rows2.ext hu hg0
 have hx0 := Ints.ext hx hg0
 obtain ⟨au, capu, rfl, _, _⟩ := Sl.shape hu
 obtain ⟨ax, capx, rfl, _, _⟩ := hx.shape
 have hg1 : Ext (w.alloc (.cells #[vo, vp, vc] 39)) ((w.alloc (.cells #[vo, vp, vc] 39)).alloc (.cells #[.slice au U.length capu] 32)) := World.grownBy_alloc _ _ _
 have hl := rows3One hu0
 have hcon := areSubgroups_ok P _ _ _ [U] Any Any (hp0.ext hg1) hl
 rw [hs0] at hcon
 have HH := Lib.hid (And.intro hr (And.intro hU hX)); clear hl hu hx hr hU hX
 go_enter Tryz.func84, Tryz.ntmps84
 go_wp2_with fail
 refine Calls.mono hcon ?_
 rintro e1 w1 ⟨v1, rfl, hgA, r1, rfl, hr1⟩
 clear hcon
 obtain rfl : r1 = true := hr1.2 (by have := HH.out; simp only [List.mem_cons, List.mem_nil_iff, or_false]; exact ⟨this.1, fun u hu => by subst hu; exact this.2.1⟩)
 clear hr1
 have hg01 := grown_trans hg1 hgA
 have HS := Lib.hid hs0; clear hs0
 generalize hw0 : w.alloc (.cells #[vo, vp, vc] 39) = w0 at *
 clear hw0 hg1 hgA
 have hx1 := Ints.ext hx0 hg01
 have hex := isExponents_ok w1 (.pointer (some ⟨w.heap.size, 0, none⟩)) _ P X Any Sx (hp0.ext hg01) hx1 (fun i hi => by have := G.v.ord7 i hi; omega)
 rw [expB_vec.2 HH.out.2.2] at hex
 go_wp2_with fail
 refine Calls.mono hex ?_
 rintro _ _ ⟨rfl, rfl⟩
 clear hex
 go_wp2_with fail
 refine Calls.mono (cosetNumber_ok P HH.out.1 w1 _ _ _ U X Any Su Sx (hp0.ext hg01) (Rows2.ext hu0 hg01) hx1 HH.out.2.1 HH.out.2.2) ?_
 rintro e2 w2 ⟨v2, rfl, hg2, rfl⟩
 go_wp2
 go_ret2
 exact ⟨_, rfl, grown_trans hg0 (grown_trans hg01 hg2), rfl⟩
set_option maxRecDepth 100000 in
set_option maxHeartbeats 4000000 in
theorem iTr_ok (P : Pr) (hr : rconsB P = true) (w : World) (pv uv : Value) (U : List (List Int)) (Sp Su : Nat → Prop) (hpv : PresV Sp w pv P) (hu : Rows2 Su w uv U) (hU : SubB P U) (h128 : ixN P U ≤ 128) :
  Calls Tryz.prog 82 #[pv, uv] w (Ret w fun w' v => ∃ a n c, v = .tuple #[.slice a n c, .int .i64 0] ∧ Rows2 Any w' (.slice a n c) (trT P (frI P U))) := by
 have G := grp_of_r hr
 have hn6 := G.v.n6
 have hz : ¬ 128 < szR P (frI P U).reverse := by show ¬ 128 < ixN P U; omega
 have htl : (trT P (frI P U)).length ≤ 128 := by rw [G.tr_len]; exact h128
 obtain ⟨vo, vp, vc, rfl, h3⟩ := hpv
 have hp0 := PresP.box h3 39
 have hg0 : Ext w (w.alloc (.cells #[vo, vp, vc] 39)) := World.grownBy_alloc _ _ _
 have hu0 := Rows2.ext hu hg0
 obtain ⟨au, capu, rfl, _, _⟩ := Sl.shape hu
 have hix : Calls Tryz.prog 202 #[.pointer (some ⟨w.heap.size, 0, none⟩), .slice au U.length capu] (w.alloc (.cells #[vo, vp, vc] 39)) (Ret (w.alloc (.cells #[vo, vp, vc] 39)) fun _ v => v = .int .i64 0) := by
  have h := indexCode2_ok P hr (w.alloc (.cells #[vo, vp, vc] 39)) (.pointer (some ⟨w.heap.size, 0, none⟩)) _ U _ _ hp0 hu0 hU
  rw [if_neg hz] at h; exact h
 have HH := Lib.hid (And.intro hr (And.intro hU htl)); clear hu hr hU htl hz h128
 go_enter Tryz.func82, Tryz.ntmps82
 go_wp2_with fail
 generalize hw0 : w.alloc (.cells #[vo, vp, vc] 39) = w0 at *
 clear hw0
 refine Calls.mono hix ?_
 rintro e1 w1 ⟨v1, rfl, hg1, rfl⟩
 clear hix
 go_wp2_with fail
 refine Calls.mono (transversal_ok P G w1 _ _ U Any Su (hp0.ext hg1) (Rows2.ext hu0 hg1) HH.out.2.1) ?_
 rintro e2 w2 ⟨v2, rfl, hg2, hO⟩
 have hR := RowsD.rows (SlO.toD hO (by have := HH.out.2.2; omega))
 obtain ⟨ta, tc, rfl, _, _⟩ := Sl.shape hR
 have HR := Lib.hid (Rows2.sub (S' := Any) hR (fun _ _ _ => trivial)); clear hR hO
 go_wp2
 go_ret2
 exact ⟨_, rfl, grown_trans hg0 (grown_trans hg1 hg2), _, _, _, rfl, HR.out⟩
set_option maxRecDepth 100000 in
set_option maxHeartbeats 8000000 in
theorem iCa_ok (P : Pr) (w : World) (pv uv xv : Value) (U : List (List Int)) (X : List Int) (Sp Su Sx : Nat → Prop) (hpv : PresV Sp w pv P) (hu : Rows2 Su w uv U) (hx : Ints Sx w xv X) :
  Calls Tryz.prog 78 #[pv, uv, xv] w (Ret w fun w' v => ∃ a n c, v = .tuple #[.slice a n c, .int .i64 (caC P U X)] ∧ Ints Any w' (.slice a n c) (caL P U X)) := by
 obtain ⟨vo, vp, vc, rfl, h3⟩ := hpv
 have hp0 := PresP.box h3 39
 have hg0 : Ext w (w.alloc (.cells #[vo, vp, vc] 39)) := World.grownBy_alloc _ _ _
 have hs0 : (w.alloc (.cells #[vo, vp, vc] 39)).heap.size = w.heap.size + 1 := by simp
 have hu0 := Rows2.ext hu hg0
 have hx0 := Ints.ext hx hg0
 obtain ⟨au, capu, rfl, _, _⟩ := Sl.shape hu
 obtain ⟨ax, capx, rfl, _, _⟩ := hx.shape
 have hg1 : Ext (w.alloc (.cells #[vo, vp, vc] 39)) ((w.alloc (.cells #[vo, vp, vc] 39)).alloc (.cells #[.slice au U.length capu] 32)) := World.grownBy_alloc _ _ _
 have hl := rows3One hu0
 have hcon := areSubgroups_ok P _ _ _ [U] Any Any (hp0.ext hg1) hl
 rw [hs0] at hcon
 clear hl hu hx
 go_enter Tryz.func78, Tryz.ntmps78
 go_wp2_with fail
 refine Calls.mono hcon ?_
 rintro e1 w1 ⟨v1, rfl, hgA, r1, rfl, hr1⟩
 clear hcon
 replace hr1 : r1 = true ↔ oneOk P U := by rw [hr1]; unfold oneOk; simp
 have hg01 := grown_trans hg1 hgA
 have HS := Lib.hid hs0; clear hs0
 generalize hw0 : w.alloc (.cells #[vo, vp, vc] 39) = w0 at *
 clear hw0 hg1 hgA
 cases r1 with
 | false =>
  obtain ⟨hc, hL⟩ := ca_bad (P := P) (U := U) (X := X) (fun h => by have := hr1.2 h.1; cases this)
  have HC := Lib.hid (And.intro hc hL); clear hc hL hr1
  go_wp2
  go_ret2
  exact ⟨_, rfl, grown_trans hg0 hg01, none, 0, 0, by rw [HC.out.1]; rfl, by rw [HC.out.2]; exact ⟨none, 0, rfl, ⟨by simp, by simp, fun _ => rfl⟩, fun i hi => by simp at hi⟩⟩
 | true =>
  have hok := hr1.1 rfl
  have G := grp_of_r hok.1
  have hn6 := G.v.n6
  have hx1 := Ints.ext hx0 hg01
  have hex := isExponents_ok w1 _ _ P X Any Sx (hp0.ext hg01) hx1 (fun i hi => by have := G.v.ord7 i hi; omega)
  by_cases hX : Vec P.orders X
  ·rw [expB_vec.2 hX] at hex
   have hcr : crOk P U X := ⟨hok, hX⟩
   have HC := Lib.hid (And.intro hcr (And.intro hok hX)); clear hcr hr1 hok hX
   go_wp2_with fail
   refine Calls.mono hex ?_
   rintro _ _ ⟨rfl, rfl⟩
   clear hex
   go_wp2_with fail
   refine Calls.mono (indexCode2_ok P HC.out.2.1.1 w1 _ _ U Any Su (hp0.ext hg01) (Rows2.ext hu0 hg01) HC.out.2.1.2) ?_
   rintro e2 w2 ⟨v2, rfl, hg2, rfl⟩
   have hg02 := grown_trans hg01 hg2
   by_cases hbig : 128 < szR P (frI P U).reverse
   ·rw [if_pos hbig]
    obtain ⟨hc, hL⟩ := ca_big HC.out.1 hbig
    have HC2 := Lib.hid (And.intro hc hL); clear hc hL hbig
    go_wp2
    go_ret2
    exact ⟨_, rfl, grown_trans hg0 hg02, none, 0, 0, by rw [HC2.out.1]; rfl, by rw [HC2.out.2]; exact ⟨none, 0, rfl, ⟨by simp, by simp, fun _ => rfl⟩, fun i hi => by simp at hi⟩⟩
   ·rw [if_neg hbig]
    obtain ⟨hc, hL⟩ := ca_ok HC.out.1 hbig
    have hTl : (trT P (frI P U)).length ≤ 128 := by rw [G.tr_len]; show szR P (frI P U).reverse ≤ 128; omega
    have hlen : (caL0 P U X).length = (trT P (frI P U)).length := by rw [caL0_len, G.tr_len]
    have hstp : ∀ t, t < (trT P (frI P U)).length → Vec P.orders (gt (trT P (frI P U)) t) ∧ (caL0 P U X).take (t + 1) = (caL0 P U X).take t ++ [((cnV P U (rMul P (rInv P X) (gt (trT P (frI P U)) t)) : Nat) : Int)] := fun t ht => by
     have ht2 : t < ixN P U := by rw [← G.tr_len]; exact ht
     refine ⟨(G.cn_tr HC.out.2.1.1 HC.out.2.1.2 ht2).1, ?_⟩
     rw [take_succ_gt _ t (by rw [caL0_len]; exact ht2), gt_caL0 ht2, G.gt_tr ht2]; rfl
    have HC2 := Lib.hid (And.intro hc (And.intro hL (And.intro hlen hstp))); clear hc hL hbig hlen hstp
    go_wp2_with fail
    refine Calls.mono (invert_ok P G.v w2 _ _ X Any Sx (hp0.ext hg02) (Ints.ext hx0 hg02) HC.out.2.2) ?_
    rintro e3 w3 ⟨yv, rfl, hg3, hY⟩
    rw [G.iInv_eq HC.out.2.2] at hY
    have hYV := G.invV HC.out.2.2
    have hYi := hY.ints (by rw [hYV.1]; omega)
    obtain ⟨ya, yc, rfl, _, _⟩ := hYi.shape
    have hg03 := grown_trans hg02 hg3
    have HY := Lib.hid (And.intro hYV hYi); clear hYV hYi hY
    go_wp2_with fail
    refine Calls.mono (transversal_ok P G w3 _ _ U Any Su (hp0.ext hg03) (Rows2.ext hu0 hg03) HC.out.2.1.2) ?_
    rintro e4 w4 ⟨v4, rfl, hg4, hO⟩
    have hg04 := grown_trans hg03 hg4
    obtain ⟨T, hT⟩ : ∃ T, T = trT P (frI P U) := ⟨_, rfl⟩
    have hst := HC2.out.2.2.2
    have hlen := HC2.out.2.2.1
    rw [← hT] at hO hTl hst hlen
    have hTr := RowsD.rows (SlO.toD hO (by omega))
    obtain ⟨ta, tc, rfl, _, _⟩ := Sl.shape hTr
    have hYx : ∀ w', Ext w4 w' → Ints Any w' (.slice ya (rInv P X).length yc) (rInv P X) := fun w' h => Ints.ext HY.out.2 (grown_trans hg4 h)
    have hTx : ∀ w', Ext w4 w' → Rows2 Any w' (.slice ta T.length tc) T := fun w' h => Rows2.sub (Rows2.ext hTr h) (fun _ _ _ => trivial)
    have hpx : ∀ w', Ext w4 w' → PresP Any w' (.pointer (some ⟨w.heap.size, 0, none⟩)) P := fun w' h => hp0.ext (grown_trans hg04 h)
    have hux : ∀ w', Ext w4 w' → Rows2 Su w' (.slice au U.length capu) U := fun w' h => Rows2.ext hu0 (grown_trans hg04 h)
    have HT := Lib.hid (And.intro hst (And.intro hYx (And.intro hTx (And.intro hpx (And.intro hux hlen))))); clear hst hYx hTx hpx hux hlen hT hTr hO hp0 hu0 hx0 hx1
    go_wp2
    go_loopw [10, 32] (fun ov iv wr => ∃ (k : Nat) (v5 : Value), v5 = ov ∧ iv = .int .i64 (k : Int) ∧ k ≤ T.length ∧ Ext w4 wr ∧ Own w4.heap.size wr v5 ((caL0 P U X).take k)) (fun _ iv _ => T.length - (intOf iv).toNat)
    case atStart => exact ⟨0, _, rfl, rfl, by omega, Ext.refl _, by rw [List.take_zero]; exact World.ownsRow_nil _ _ _ _⟩
    case round =>
     obtain ⟨k, v5, rfl, rfl, hk, hg, hA⟩ := hrel
     by_cases hlt : k < T.length
     ·have hlt' : (k : Int) < T.length := by omega
      have hkT : k < T.length := hlt
      obtain ⟨rb, ro, ra, rc, hab, _, _, hcr, hri⟩ := Rows2.at (HT.out.2.2.1 wr hg) k hkT
      subst hab
      obtain ⟨hxV, hst⟩ := HT.out.1 k hkT
      obtain ⟨x, hx⟩ : ∃ x, x = gt T k := ⟨_, rfl⟩
      rw [← hx] at hcr hri hxV hst
      have hll : ((caL0 P U X).take k).length ≤ 1000000 := by rw [List.length_take]; have := HT.out.2.2.2.2.2; omega
      have HX := Lib.hid (And.intro hxV (And.intro hst (And.intro hri hll))); clear hxV hst hri hll hx
      go_wp2_with fail
      refine Calls.mono (multiply_ok P G.v wr _ _ _ (rInv P X) x Any Any Any (HT.out.2.2.2.1 wr hg) (HT.out.2.1 wr hg) HX.out.2.2.1 HY.out.1 HX.out.1) ?_
      rintro e6 w6 ⟨v6, rfl, hg6, hO6⟩
      rw [G.tv_eq HY.out.1 HX.out.1] at hO6
      have hmV := G.mulV HY.out.1 HX.out.1
      have h6i := hO6.ints (by rw [hmV.1]; omega)
      have hgn6 := grown_trans hg hg6
      have HM := Lib.hid (And.intro hmV h6i); clear hmV h6i hO6 hcr
      go_wp2_with fail
      refine Calls.mono (cosetNumber_ok P HC.out.2.1.1 w6 _ _ _ U _ Any Su Any (HT.out.2.2.2.1 w6 hgn6) (HT.out.2.2.2.2.1 w6 hgn6) HM.out.2 HC.out.2.1.2 HM.out.1) ?_
      rintro e7 w7 ⟨v7, rfl, hg7, rfl⟩
      have hgn7 := grown_trans hgn6 hg7
      have hA7 := hA.ext0 (grown_trans hg6 hg7)
      have hst := HX.out.2.1
      obtain ⟨c, hc⟩ : ∃ c : Int, c = ((cnV P U (rMul P (rInv P X) x) : Nat) : Int) := ⟨_, rfl⟩
      rw [← hc] at hst ⊢
      have HSt := Lib.hid hst; clear hst hc
      go_wp2_with (first | (at_builtin; refine wp_app_int rfl _ _ rfl w4.heap.size v5 ((caL0 P U X).take k) c rfl w7 hA7 rfl rfl HX.out.2.2.2 hgn7.size ?_; intro v8 w8 hO8 hg8) | fail)
      have hgn8 : Ext w4 w8 := grown_own hgn7 hg8 (fun j hj hlt => by have := (hA.lt j hj).1; omega)
      go_roundw
      case rel => exact ⟨k + 1, v8, rfl, by go_num, by omega, hgn8, by rw [HSt.out]; exact hO8⟩
      case measure => simp [intOf]; omega
     ·have hke : k = T.length := by omega
      have hfin : Own w4.heap.size wr v5 (caL0 P U X) := by
       have e : (caL0 P U X).take k = caL0 P U X := by rw [hke, ← HT.out.2.2.2.2.2, List.take_length]
       rw [e] at hA; exact hA
      have hfi := hfin.ints (by have := HT.out.2.2.2.2.2; omega)
      obtain ⟨fa, fc, rfl, _, _⟩ := hfi.shape
      have hl := HT.out.2.2.2.2.2
      have HF := Lib.hid (And.intro hfi hl); clear hfin hfi hA hl
      have hgw := grown_trans hg0 (grown_trans hg04 hg)
      go_wp2
      go_ret2
      exact ⟨_, rfl, hgw, _, _, _, by rw [HC2.out.1]; rfl, by rw [HC2.out.2.1]; exact HF.out.1⟩
  ·have hxf : expB P.orders X = false := by cases h : expB P.orders X with | false => rfl | true => exact absurd (expB_vec.1 h) hX
   rw [hxf] at hex
   obtain ⟨hc, hL⟩ := ca_bad (P := P) (U := U) (X := X) (fun h => hX h.2)
   have HC := Lib.hid (And.intro hc hL); clear hc hL hr1 hok hX hxf
   go_wp2_with fail
   refine Calls.mono hex ?_
   rintro _ _ ⟨rfl, rfl⟩
   clear hex
   go_wp2
   go_ret2
   exact ⟨_, rfl, grown_trans hg0 hg01, none, 0, 0, by rw [HC.out.1]; rfl, by rw [HC.out.2]; exact ⟨none, 0, rfl, ⟨by simp, by simp, fun _ => rfl⟩, fun i hi => by simp at hi⟩⟩
end Go.Proofs.YtmjkoejegfjbbaaGreat
