/-
  impl.transversal.
-/
import Derived.Test.YtdklekdpdbjfiaaGreatUFixW2
import Derived.Test.YtdklekdpdbjfiaaGreatM8
namespace Go.Proofs.YtdklekdpdbjfiaaGreat
open Go.RowKit
theorem trT_snoc (P : Pr) (l : List Nat) (i : Nat) : trT P (l ++ [i]) = trS P (trT P l) i := by unfold trT; rw [List.foldl_append]; rfl
theorem trS_len (P : Pr) (out : List (List Int)) (i : Nat) : (trS P out i).length = out.length * ordN' P i := by
 unfold trS
 exact flatMap_len' _ _ _ (fun x _ => by rw [List.length_map, List.length_range])
theorem trT_len (P : Pr) (h7 : ∀ i, i < P.orders.length → ordN' P i ≤ 7) : ∀ l : List Nat, (∀ i ∈ l, i < P.orders.length) → (trT P l.reverse).length ≤ 7 ^ l.length
 | [], _ => by simp [trT]
 | i :: l, h => by
  rw [List.reverse_cons, trT_snoc, trS_len, List.length_cons, Nat.pow_succ]
  exact Nat.mul_le_mul (trT_len P h7 l (fun j hj => h j (List.mem_cons_of_mem _ hj))) (h7 i (h i (List.mem_cons_self ..)))
theorem trT_row (P : Pr) : ∀ l : List Nat, ∀ x ∈ trT P l.reverse, x.length = P.orders.length
 | [], x, hx => by
  have : x = zeros P.orders.length := by simpa [trT] using hx
  rw [this]; simp [zeros]
 | i :: l, x, hx => by
  rw [List.reverse_cons, trT_snoc] at hx
  unfold trS at hx
  obtain ⟨y, hy, hx⟩ := List.mem_flatMap.1 hx
  obtain ⟨e, _, rfl⟩ := List.mem_map.1 hx
  rw [List.length_set]; exact trT_row P l y hy
theorem trT_bd (P : Pr) (h7 : ∀ i, i < P.orders.length → ordN' P i ≤ 7) (l : List Nat) (hl : l.length ≤ 6) (h : ∀ i ∈ l, i < P.orders.length) : (trT P l).length ≤ 117649 ∧ ∀ x ∈ trT P l, x.length = P.orders.length := by
 have h1 := trT_len P h7 l.reverse (fun i hi => h i (List.mem_reverse.1 hi))
 have h2 := trT_row P l.reverse
 rw [List.reverse_reverse] at h1 h2
 rw [List.length_reverse] at h1
 exact ⟨Nat.le_trans h1 (Nat.pow_le_pow_right (by decide) hl), h2⟩
set_option maxRecDepth 100000 in
set_option maxHeartbeats 4000000 in
theorem transversal_ok (P : Pr) (G : Grp P) (w : World) (p uv : Value) (U : List (List Int)) (Sp Su : Nat → Prop) (hp : PresP Sp w p P) (hu : Rows2 Su w uv U) (hU : SubB P U) :
  Calls Tryz.prog 164 #[p, uv] w (Ret w fun w' v => RowsO w.heap.size w' v (trT P (frI P U))) := by
 have hP := G.v
 have hn6 := hP.n6
 obtain ⟨pb, po, rfl⟩ := hp.shape
 obtain ⟨ao, capo, hco0, hoi⟩ := hp.ordAt
 obtain ⟨au, capu, rfl, _, _⟩ := Sl.shape hu
 have hul : U.length ≤ 6 := by have := G.sub_len hU; omega
 have hUz : ∀ z ∈ U, dep z < z.length := fun z hz => by
  have h1 := (G.seq_facts (G.subB hU)).1
  rw [← hU.2] at h1
  have := h1.1 z hz; rw [this.1.1]; exact this.2.1
 have hord : ∀ i, i < P.orders.length → gt P.orders i = ((ordN' P i : Nat) : Int) ∧ ordN' P i ≤ 7 := fun i hi => by
  have := hP.ord7 i hi; unfold ordN'; omega
 have hfi : ∀ i ∈ frI P U, i < P.orders.length := fun i hi => (frI_mem.1 hi).1
 have hfl : (frI P U).length ≤ 6 := by
  have := frT_len U P.orders.length
  have e : frT U P.orders.length = frI P U := rfl
  rw [e] at this; omega
 have hbd : ∀ k, (trT P ((frI P U).take k)).length ≤ 117649 ∧ ∀ x ∈ trT P ((frI P U).take k), x.length = P.orders.length := fun k =>
  trT_bd P (fun i hi => (hord i hi).2) _ (by rw [List.length_take]; omega) (fun i hi => hfi i (List.mem_of_mem_take hi))
 obtain ⟨m, hm⟩ : ∃ m, m = (frI P U).length := ⟨_, rfl⟩
 rw [← hm] at hfl
 have HB := Lib.hid (And.intro hbd (And.intro hord (And.intro hfi hm))); clear hbd hord hfi hm hU
 go_enter Tryz.func164, Tryz.ntmps164
 go_wp2_with (first | (at_make; refine wp_make_ints rfl _ _ rfl w.heap.size P.orders.length w.heap.size rfl _ rfl rfl rfl (by omega) (Nat.le_refl _) ?_; intro w1 ho1 hg1 hlt1) | fail)
 have hz1 : OwnIn (From w.heap.size) w1 (.slice (some ⟨w.heap.size, 0, none⟩) P.orders.length P.orders.length) (zeros P.orders.length) := OwnIn.of ho1 (by simp [zeros]; omega) (fun j h1 _ => h1)
 have hO1 := rowsOne hz1 hg1.size
 have hga : Ext w1 (w1.alloc (.cells #[.slice (some ⟨w.heap.size, 0, none⟩) P.orders.length P.orders.length] 22)) := World.grownBy_alloc _ _ _
 have hg2 := grown_trans hg1 hga
 clear ho1 hz1 hga hg1 hlt1
 generalize hw2 : w1.alloc (.cells #[.slice (some ⟨w.heap.size, 0, none⟩) P.orders.length P.orders.length] 22) = w2 at *
 clear hw2
 refine Calls.mono (otherIndices_ok P hn6 w2 _ _ U Sp Su (hp.ext hg2) (Rows2.ext hu hg2) hUz hul) ?_
 rintro e3 w3 ⟨iv, rfl, hg3, hV3⟩
 have hg03 := grown_trans hg2 hg3
 have hO3 := SlO.ext rdOwn hO1 hg3
 clear hO1 hg2 hg3 hUz
 have hivs : ∃ az capz, iv = .slice az m capz := by
  rcases hV3.form with ⟨h1, h2⟩ | ⟨g, cp, h1, _⟩
  ·have h3 : m = 0 := by unfold idxV at h2; rw [List.map_eq_nil_iff] at h2; rw [HB.out.2.2.2, h2]; rfl
   exact ⟨none, 0, by rw [h1, h3]⟩
  ·exact ⟨_, _, by rw [h1]; unfold idxV; rw [List.length_map, ← HB.out.2.2.2]⟩
 obtain ⟨ai, capi, rfl⟩ := hivs
 have hIi : Ints Any w3 (.slice ai m capi) ((frI P U).map (fun i : Nat => (i : Int))) := by
  have e : idxV (frI P U) = ((frI P U).map (fun i : Nat => (i : Int))).map (Value.int .i64) := by unfold idxV; rw [List.map_map]; rfl
  rw [e] at hV3
  exact ints_of_ownV hV3 (by rw [List.length_map, ← HB.out.2.2.2]; omega) (fun _ _ => trivial)
 have HI := Lib.hid hIi; clear hIi hV3
 have hO3 : RowsO w.heap.size w3 _ (trT P ((frI P U).take 0)) := hO3
 go_wp2
 go_loopw [5, 24] (fun ov jv wr => ∃ (k : Nat) (v5 : Value), v5 = ov ∧ jv = .int .i64 k ∧ k ≤ m ∧ Ext w3 wr ∧ RowsO w.heap.size wr v5 (trT P ((frI P U).take k))) (fun _ jv _ => m - (intOf jv).toNat)
 case atStart => exact ⟨0, _, rfl, rfl, by omega, Ext.refl _, hO3⟩
 case round =>
  clear hO3
  obtain ⟨k, v5, rfl, rfl, hk, hg, hO⟩ := hrel
  by_cases hlt : k < m
  ·have hlt' : (k : Int) < m := by omega
   have hkl : k < (frI P U).length := by rw [← HB.out.2.2.2]; exact hlt
   obtain ⟨bi, oi, hai, _, _, hci⟩ := Ints.at (Ints.ext HI.out hg) k (by rw [List.length_map]; exact hkl)
   subst hai
   rw [gt_map _ _ _ hkl] at hci
   obtain ⟨i, hi⟩ : ∃ i, i = gt (frI P U) k := ⟨_, rfl⟩
   have hin : i < P.orders.length := by rw [hi]; exact HB.out.2.2.1 _ (gtMem hkl)
   obtain ⟨ho1, ho7⟩ := HB.out.2.1 i hin
   obtain ⟨o, ho⟩ : ∃ o, o = ordN' P i := ⟨_, rfl⟩
   obtain ⟨X, hX⟩ : ∃ X, X = trT P ((frI P U).take k) := ⟨_, rfl⟩
   have hXb := HB.out.1 k
   have hXn : trT P ((frI P U).take (k + 1)) = X.flatMap (fun x => (List.range o).map (fun e : Nat => x.set i (e : Int))) := by
    rw [take_succ_gt _ k hkl, trT_snoc, ← hX, ← hi, ho]; rfl
   have hXb2 := HB.out.1 (k + 1)
   rw [hXn] at hXb2
   rw [← hi] at hci
   rw [← ho] at ho1 ho7
   rw [← hX] at hO hXb
   have hXr := RowsD.rows (SlO.toD hO (by omega))
   obtain ⟨ax, capx, hv5, _⟩ := Sl.shape hXr
   subst hv5
   obtain ⟨wo, rfl⟩ : ∃ wo : World, wo = wr := ⟨_, rfl⟩
   have hgw := grown_trans hg03 hg
   have hXr2 : Rows2 Any wo (.slice ax X.length capx) X := Rows2.sub hXr (fun _ _ _ => trivial)
   obtain ⟨bo, oo, hao, _, _, hcod⟩ := Ints.at (hoi.ext hgw) i hin
   subst hao
   rw [ho1] at hcod
   have hc0 := hgw.cell hco0 (by simp)
   have hin' : (i : Int) < P.orders.length := by omega
   have HX := Lib.hid (And.intro hXn (And.intro hXb (And.intro hXb2 (And.intro hXr2 (And.intro hc0 hcod))))); clear hXn hXb hXb2 hXr2 hXr hc0 hcod hX hi ho ho1 hO hkl
   have hXl : X.length ≤ 117649 := HX.out.2.1.1
   go_wp2
   clear hci
   go_loopw [8, 30] (fun nv jv wr => ∃ (j : Nat) (v8 : Value), v8 = nv ∧ jv = .int .i64 j ∧ j ≤ X.length ∧ Ext wo wr ∧ RowsO wo.heap.size wr v8 ((X.take j).flatMap (fun x => (List.range o).map (fun e : Nat => x.set i (e : Int))))) (fun _ jv _ => X.length - (intOf jv).toNat)
   case atStart => exact ⟨0, _, rfl, rfl, by omega, Ext.refl _, SlO.nil _ _ _ _⟩
   case round =>
    obtain ⟨j, v8, rfl, rfl, hj, hgj, hA⟩ := hrel
    by_cases hjl : j < X.length
    ·have hjl' : (j : Int) < X.length := by omega
     obtain ⟨bx, ox, ar, cr, hax, _, _, hcx, hxi⟩ := Rows2.at HX.out.2.2.2.1 j hjl
     subst hax
     have hcx := hgj.cell hcx (by simp)
     have hxl := HX.out.2.1.2 _ (gtMem hjl)
     have hc0 := hgj.cell HX.out.2.2.2.2.1 (by simp)
     have hcod := hgj.cell HX.out.2.2.2.2.2 (by simp)
     have hst : (X.take (j + 1)).flatMap (fun x => (List.range o).map (fun e : Nat => x.set i (e : Int))) = (X.take j).flatMap (fun x => (List.range o).map (fun e : Nat => x.set i (e : Int))) ++ (List.range o).map (fun e : Nat => (gt X j).set i (e : Int)) := by
      rw [take_succ_gt X j hjl, List.flatMap_append, List.flatMap_singleton]
     have hpl : ((X.take j).flatMap (fun x => (List.range o).map (fun e : Nat => x.set i (e : Int)))).length ≤ 117649 * 7 := by
      rw [flatMap_len' _ _ o (fun x _ => by rw [List.length_map, List.length_range]), List.length_take]
      exact Nat.mul_le_mul (by omega) ho7
     obtain ⟨x, hx⟩ : ∃ x, x = gt X j := ⟨_, rfl⟩
     obtain ⟨L, hL⟩ : ∃ L, L = (X.take j).flatMap (fun x => (List.range o).map (fun e : Nat => x.set i (e : Int))) := ⟨_, rfl⟩
     rw [← hx] at hcx hxi hxl hst
     rw [← hL] at hst hpl hA
     have hxi2 : ∀ w', Ext wo w' → Ints Any w' (.slice ar x.length cr) x := fun w' h => Ints.sub (Ints.ext hxi h) (fun _ _ _ => trivial)
     obtain ⟨wj, rfl⟩ : ∃ wj : World, wj = wr := ⟨_, rfl⟩
     have HJ := Lib.hid (And.intro hst (And.intro hL (And.intro hx (And.intro hxi2 hxl)))); clear hst hL hx hxi2 hxi hxl
     go_wp2
     clear hc0 hcod hcx
     go_loopw [8, 41] (fun nv tv wr => ∃ (e : Nat) (v9 : Value), v9 = nv ∧ tv = .int .i64 e ∧ e ≤ o ∧ Ext wo wr ∧ RowsO wo.heap.size wr v9 (L ++ (List.range e).map (fun e : Nat => x.set i (e : Int)))) (fun _ tv _ => o - (intOf tv).toNat)
     case atStart => exact ⟨0, _, rfl, rfl, by omega, hgj, by rw [List.range_zero, List.map_nil, List.append_nil]; exact hA⟩
     case round =>
      clear hA
      obtain ⟨e, v9, rfl, rfl, he, hge, hA⟩ := hrel
      by_cases hel : e < o
      ·have hel' : (e : Int) < o := by omega
       have hst : L ++ (List.range (e + 1)).map (fun e : Nat => x.set i (e : Int)) = (L ++ (List.range e).map (fun e : Nat => x.set i (e : Int))) ++ [x.set i (e : Int)] := by
        rw [List.range_succ, List.map_append, List.append_assoc]; rfl
       have hll : (L ++ (List.range e).map (fun e : Nat => x.set i (e : Int))).length ≤ 1000000 := by
        rw [List.length_append, List.length_map, List.length_range]; omega
       obtain ⟨M, hM⟩ : ∃ M, M = L ++ (List.range e).map (fun e : Nat => x.set i (e : Int)) := ⟨_, rfl⟩
       rw [← hM] at hst hll hA
       have HE := Lib.hid hst; clear hst hM
       obtain ⟨wr0, rfl⟩ : ∃ wr0 : World, wr0 = wr := ⟨_, rfl⟩
       go_wp2_with fail
       refine Calls.mono (clone_ok wr0 _ x Any (HJ.out.2.2.2.1 wr0 hge) (by have := HJ.out.2.2.2.2; omega)) ?_
       rintro e6 w6 ⟨v6, rfl, hg6, hO6⟩
       have hxl := HJ.out.2.2.2.2
       obtain ⟨g6, c6, rfl, hb6, hlt6⟩ := hO6.form (by omega)
       have hcl := hO6.cell i (by omega)
       have hfz := hO6.frozen i
       have hs6 := hO6.store i (e : Int)
       have hxl' : (i : Int) < x.length := by omega
       have hYO : OwnIn (From wr0.heap.size) (w6.setCell ⟨g6, i, none⟩ (.int .i64 e)) (.slice (some ⟨g6, 0, none⟩) x.length c6) (x.set i (e : Int)) := OwnIn.of hs6.1 (by rw [List.length_set]; omega) (fun j h1 _ => h1)
       have hg7 : Ext wr0 (w6.setCell ⟨g6, i, none⟩ (.int .i64 e)) := grown_own hg6 hs6.2 (fun j hj hlt => by have := Option.some.inj hj; omega)
       have hsz : (w6.setCell ⟨g6, i, none⟩ (.int .i64 e)).heap.size = w6.heap.size := by simp [World.setCell]
       have HY := Lib.hid (And.intro hYO hsz); clear hYO hs6 hxl hsz
       go_wp2_with (first | (at_builtin; refine wp_app_row rfl _ _ rfl wo.heap.size wr0 (w6.setCell ⟨g6, i, none⟩ (.int .i64 e)) v9 _ M (x.set i (e : Int)) rfl hA hg7 HY.out.1 rfl (by rw [HY.out.2]; rfl) hll hge.size ?_; intro v8 w8 hO8 hg8 _) | fail)
       have hgn : Ext wo w8 := grown_own hge hg8 (fun j hj hlt => by have := (hA.lt j hj).1; omega)
       go_roundw
       case rel => exact ⟨e + 1, v8, rfl, by go_num, by omega, hgn, by rw [HE.out]; exact hO8⟩
       case measure => simp [intOf]; omega
      ·have heo : e = o := by omega
       subst heo
       have hfin : RowsO wo.heap.size wr v9 ((X.take (j + 1)).flatMap (fun x => (List.range e).map (fun e : Nat => x.set i (e : Int)))) := by rw [HJ.out.1]; exact hA
       have HF := Lib.hid hfin; clear hfin hA
       have hgn := hge
       go_wp2
       go_roundw
       case rel => exact ⟨j + 1, v9, rfl, by go_num, by omega, hgn, HF.out⟩
       case measure => simp [intOf]; omega
    ·have hje : j = X.length := by omega
     subst hje
     rw [List.take_length] at hA
     have hfin : RowsO w.heap.size wr v8 (trT P ((frI P U).take (k + 1))) := by rw [HX.out.1]; exact hA.weak hgw.size
     have HF := Lib.hid hfin; clear hfin hA
     have hgn := grown_trans hg hgj
     go_wp2
     go_roundw
     case rel => exact ⟨k + 1, v8, rfl, by go_num, by omega, hgn, HF.out⟩
     case measure => simp [intOf]; omega
  ·have hke : k = m := by omega
   subst hke
   have hfin : RowsO w.heap.size wr v5 (trT P (frI P U)) := by
    have e : (frI P U).take k = frI P U := by rw [HB.out.2.2.2]; exact List.take_length
    rw [e] at hO; exact hO
   have HF := Lib.hid hfin; clear hfin hO
   have hgw := grown_trans hg03 hg
   go_wp2
   go_ret
   exact ⟨_, rfl, hgw, HF.out⟩
end Go.Proofs.YtdklekdpdbjfiaaGreat
