/-
  impl.FixedCosets, where all goes well.
-/
import Derived.Test.YtdklekdpdbjfiaaGreatUFixW5
import Derived.Test.YtdklekdpdbjfiaaGreatUTwo
namespace Go.Proofs.YtdklekdpdbjfiaaGreat
open Go.RowKit
open Classical
set_option maxRecDepth 100000 in
set_option maxHeartbeats 4000000 in
theorem iFix_ok (P : Pr) (hr : rconsB P = true) (w : World) (pv uv vv : Value) (U V : List (List Int)) (Sp Su Sv : Nat → Prop) (hpv : PresV Sp w pv P) (hu : Rows2 Su w uv U) (hv : Rows2 Sv w vv V) (hU : SubB P U) (hV : SubB P V) (h128 : ordP P ≤ 128) :
  Calls Tryz.prog 105 #[pv, uv, vv] w (Ret w fun _ v => v = .tuple #[.int .i64 (fixN P U V : Nat), .int .i64 0]) := by
 have G := grp_of_r hr
 have hn6 := G.v.n6
 obtain ⟨vo, vp, vc, rfl, h3⟩ := hpv
 have hp0 := PresP.box h3 31
 have hg0 : Ext w (w.alloc (.cells #[vo, vp, vc] 31)) := World.grownBy_alloc _ _ _
 have hs0 : (w.alloc (.cells #[vo, vp, vc] 31)).heap.size = w.heap.size + 1 := by simp
 have hu0 := Rows2.ext hu hg0
 have hv0 := Rows2.ext hv hg0
 obtain ⟨au, capu, rfl, _, _⟩ := Sl.shape hu
 obtain ⟨av, capv, rfl, _, _⟩ := Sl.shape hv
 have hg1 : Ext (w.alloc (.cells #[vo, vp, vc] 31)) ((w.alloc (.cells #[vo, vp, vc] 31)).alloc (.cells #[.slice au U.length capu] 23)) := World.grownBy_alloc _ _ _
 have hx1 : ((w.alloc (.cells #[vo, vp, vc] 31)).alloc (.cells #[.slice au U.length capu] 23)).cell? ⟨w.heap.size + 1, 0, none⟩ = some (.slice au U.length capu) := by
  rw [← hs0, World.cell?_alloc_at _ _ _ _ rfl]; rfl
 have hu1 := Rows2.ext hu0 hg1
 have hv1 := Rows2.ext hv0 hg1
 have hp1 := hp0.ext hg1
 have hs1 : ((w.alloc (.cells #[vo, vp, vc] 31)).alloc (.cells #[.slice au U.length capu] 23)).heap.size = w.heap.size + 1 + 1 := by simp
 have hgw1 := grown_trans hg0 hg1
 have hVv : ∀ y ∈ V, Vec P.orders y := hV.1
 have hzr : ∀ x ∈ trT P (frI P U), Zr P U x := fun x hx => by
  have e := trT_eq P (frI P U).reverse
  rw [List.reverse_reverse] at e
  rw [e] at hx
  obtain ⟨t, _, rfl⟩ := List.mem_map.1 hx
  exact elR_zr G t
 have htl : (trT P (frI P U)).length ≤ 117649 := (trT_bd P (fun i hi => by have := G.v.ord7 i hi; unfold ordN'; omega) _ (by
  have h := frT_len U P.orders.length
  have e : frT U P.orders.length = frI P U := rfl
  rw [e] at h; omega) (fun i hi => (frI_mem.1 hi).1)).1
 have HH := Lib.hid (And.intro hr (And.intro hU (And.intro hV (And.intro hVv (And.intro hzr htl))))); clear hr hVv hzr htl hU hV
 go_enter Tryz.func105, Tryz.ntmps105
 go_wp2_with fail
 generalize hw1 : (w.alloc (.cells #[vo, vp, vc] 31)).alloc (.cells #[.slice au U.length capu] 23) = w1 at *
 clear hw1 hg0 hg1 hu0 hv0 hp0
 have hl := rows3Two hu1 hv1
 rw [hs1] at hl
 have hg2 : Ext w1 (w1.alloc (.cells #[.slice au U.length capu, .slice av V.length capv] 23)) := World.grownBy_alloc _ _ _
 have hx2 := hg2.cell hx1 (by simp)
 have hp2 := hp1.ext hg2
 have hcon := areSubgroups_ok P _ _ _ [U, V] Any Any hp2 hl
 generalize hw2 : w1.alloc (.cells #[.slice au U.length capu, .slice av V.length capv] 23) = w2 at *
 clear hw2 hl
 refine Calls.mono hcon ?_
 rintro e3 w3 ⟨v3, rfl, hg3, r1, rfl, hr0⟩
 clear hcon hx1
 obtain rfl : r1 = true := hr0.2 (by have := HH.out; simp only [List.mem_cons, List.mem_nil_iff, or_false]; exact ⟨this.1, fun u hu => by rcases hu with rfl | rfl; exact this.2.1; exact this.2.2.1⟩)
 clear hr0
 have hg13 := grown_trans hg2 hg3
 have hall : ∀ w', Ext w3 w' → w'.cell? ⟨w.heap.size + 1, 0, none⟩ = some (.slice au U.length capu) ∧ PresP Any w' (.pointer (some ⟨w.heap.size, 0, none⟩)) P ∧ Rows2 Any w' (.slice au U.length capu) U ∧ Rows2 Any w' (.slice av V.length capv) V := fun w' h =>
  ⟨h.cell (hg3.cell hx2 (by simp)) (by simp), PresP.sub (hp1.ext (grown_trans hg13 h)) (fun _ _ _ => trivial), Rows2.sub (Rows2.ext hu1 (grown_trans hg13 h)) (fun _ _ _ => trivial), Rows2.sub (Rows2.ext hv1 (grown_trans hg13 h)) (fun _ _ _ => trivial)⟩
 have hgw3 := grown_trans hgw1 hg13
 have HA := Lib.hid hall; clear hall hp1 hp2 hu1 hv1 hx2 hg2 hg3 hg13
 obtain ⟨c_, _⟩ := id (HA.out w3 (grown_refl _ _))
 go_wp2_with fail
 refine Calls.mono (indexCode_ok P HH.out.1 w3 _ _ U Any Any (HA.out w3 (grown_refl _ _)).2.1 (HA.out w3 (grown_refl _ _)).2.2.1 HH.out.2.1 h128) ?_
 rintro e4 w4 ⟨v4, rfl, hg4, rfl⟩
 clear c_
 obtain ⟨c_, _⟩ := id (HA.out w4 hg4)
 go_wp2_with fail
 refine Calls.mono (transversal_ok P G w4 _ _ U Any Any (HA.out w4 hg4).2.1 (HA.out w4 hg4).2.2.1 HH.out.2.1) ?_
 rintro e5 w5 ⟨v5, rfl, hg5, hO⟩
 clear c_
 obtain ⟨T, hT⟩ : ∃ T, T = trT P (frI P U) := ⟨_, rfl⟩
 have htl := HH.out.2.2.2.2.2
 rw [← hT] at hO htl
 have hTr := RowsD.rows (SlO.toD hO (by omega))
 obtain ⟨ta, tc, rfl, _, _⟩ := Sl.shape hTr
 have hTx : ∀ w', Ext w5 w' → Rows2 Any w' (.slice ta T.length tc) T := fun w' h => Rows2.sub (Rows2.ext hTr h) (fun _ _ _ => trivial)
 have HT := Lib.hid (And.intro hT hTx); clear hT hTx hTr hO
 have hg45 := grown_trans hg4 hg5
 have hgw5 := grown_trans hgw3 hg45
 go_wp2
 go_loopw [9, 25] (fun nv iv wr => ∃ (i n : Nat), iv = .int .i64 i ∧ nv = .int .i64 n ∧ i ≤ T.length ∧ n ≤ i ∧ Ext w5 wr ∧ Hid (n = ((T.take i).filter (fun x => decide (∀ y ∈ V, gP P U (rConj P y x)))).length)) (fun _ iv _ => T.length - (intOf iv).toNat)
 case atStart => exact ⟨0, 0, rfl, rfl, by omega, by omega, Ext.refl _, Lib.hid (by simp)⟩
 case round =>
  obtain ⟨i, n, rfl, rfl, hi, hni, hg, hN⟩ := hrel
  by_cases hlt : i < T.length
  ·have hlt' : (i : Int) < T.length := by omega
   obtain ⟨bx, ox, ax, cx, hab, _, _, hcx, hxi⟩ := Rows2.at (HT.out.2 wr hg) i hlt
   subst hab
   have hz := HH.out.2.2.2.2.1 (gt T i) (by rw [← HT.out.1]; exact gtMem hlt)
   have hst : (T.take (i + 1)).filter (fun x => decide (∀ y ∈ V, gP P U (rConj P y x))) = (T.take i).filter (fun x => decide (∀ y ∈ V, gP P U (rConj P y x))) ++ [gt T i].filter (fun x => decide (∀ y ∈ V, gP P U (rConj P y x))) := by
    rw [take_succ_gt T i hlt, List.filter_append]
   obtain ⟨x, hx⟩ : ∃ x, x = gt T i := ⟨_, rfl⟩
   rw [← hx] at hcx hxi hz hst
   have hgx : Ext wr (wr.alloc (.cells #[.slice ax x.length cx] 22)) := World.grownBy_alloc _ _ _
   have hcell : (wr.alloc (.cells #[.slice ax x.length cx] 22)).cell? ⟨wr.heap.size, 0, none⟩ = some (.slice ax x.length cx) := by rw [World.cell?_alloc_at _ _ _ _ rfl]; rfl
   have hgL := grown_trans hg45 (grown_trans hg hgx)
   have hxi2 := Ints.ext hxi hgx
   have hcon := fixAny_ok V (fun y => gP P U (rConj P y x)) (wr.alloc (.cells #[.slice ax x.length cx] 22)) (.slice av V.length capv) (.pointer (some ⟨w.heap.size, 0, none⟩)) (w.heap.size + 1) wr.heap.size Any (HA.out _ hgL).2.2.2 (fun w' yv y Sy hg' hy hyV =>
    fixCl_ok P G w' yv _ y x U _ _ au ax capu cx Any Any Any Sy HH.out.2.1 (HA.out w' (grown_trans hgL hg')).2.1 (HA.out w' (grown_trans hgL hg')).1 (HA.out w' (grown_trans hgL hg')).2.2.1 (hg'.cell hcell (by simp)) (Ints.sub (Ints.ext hxi2 hg') (fun _ _ _ => trivial)) hy (HH.out.2.2.2.1 y hyV) hz)
   have HS := Lib.hid (And.intro hst (And.intro hx hz)); clear hst hx hz hxi hxi2 hcell
   have hgn := grown_trans hg hgx
   go_wp2_with fail
   generalize wr.alloc (.cells #[.slice ax x.length cx] 22) = wx at *
   refine Calls.mono hcon ?_
   rintro e6 w6 ⟨v6, rfl, hg6, rfl⟩
   clear hcon hcx hgx hgL
   have hgn6 := grown_trans hgn hg6
   by_cases hq : ∀ y ∈ V, gP P U (rConj P y x)
   ·have hd : decide (∀ y ∈ V, gP P U (rConj P y x)) = true := decide_eq_true hq
    have hn1 : n + 1 = ((T.take (i + 1)).filter (fun x => decide (∀ y ∈ V, gP P U (rConj P y x)))).length := by
     rw [HS.out.1, List.length_append, ← hN.out, List.filter_cons_of_pos (by simpa using hq)]; rfl
    have HN1 := Lib.hid hn1; clear hn1 hq
    rw [hd]; clear hd
    go_wp2
    go_roundw
    case rel => exact ⟨i + 1, n + 1, by go_num, by go_num, by omega, by omega, hgn6, HN1⟩
    case measure => simp [intOf]; omega
   ·have hd : decide (∀ y ∈ V, gP P U (rConj P y x)) = false := decide_eq_false hq
    have hn1 : n = ((T.take (i + 1)).filter (fun x => decide (∀ y ∈ V, gP P U (rConj P y x)))).length := by
     rw [HS.out.1, List.length_append, ← hN.out, List.filter_cons_of_neg (by simpa using hq)]; rfl
    have HN1 := Lib.hid hn1; clear hn1 hq
    rw [hd]; clear hd
    go_wp2
    go_roundw
    case rel => exact ⟨i + 1, n, by go_num, rfl, by omega, by omega, hgn6, HN1⟩
    case measure => simp [intOf]; omega
  ·have hie : i = T.length := by omega
   have hfin : n = fixN P U V := by
    unfold fixN
    rw [hN.out, hie, List.take_length, HT.out.1]
   have HF := Lib.hid hfin; clear hfin
   have hgw := grown_trans hgw5 hg
   go_wp2
   go_ret2
   exact ⟨_, rfl, hgw, by rw [HF.out]; rfl⟩
end Go.Proofs.YtdklekdpdbjfiaaGreat
