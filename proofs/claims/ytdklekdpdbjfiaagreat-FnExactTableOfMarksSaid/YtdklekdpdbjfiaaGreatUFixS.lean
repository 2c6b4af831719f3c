/-
  spec.l14Free, l14Index, l14Element, FixedCosets, where all goes well.
-/
import Derived.Test.YtdklekdpdbjfiaaGreatUFixS0
import Derived.StillTailTactics
import Derived.Test.YtdklekdpdbjfiaaGreatM8
import Derived.Test.YtdklekdpdbjfiaaGreatM9
import Derived.Test.YtdklekdpdbjfiaaGreatM6
import Derived.Test.YtdklekdpdbjfiaaGreatM4
namespace Go.Proofs.YtdklekdpdbjfiaaGreat
open Go.RowKit
set_option maxRecDepth 100000 in
set_option maxHeartbeats 2000000 in
theorem l14Free_ok (P : Pr) (G : Grp P) (w : World) (pv uv : Value) (U : List (List Int)) (Sp Su : Nat → Prop) (hpv : PresV Sp w pv P) (hu : Rows2 Su w uv U) (hU : SubB P U) :
  Calls Tryz.prog 218 #[pv, uv] w (Ret w fun w' v => Own w.heap.size w' v (natI (frI P U))) := by
 have hP := G.v
 have hn6 := hP.n6
 obtain ⟨h1, _, _⟩ := G.seq_facts (G.subB hU)
 rw [← hU.2] at h1
 have hul := G.sub_len hU
 have hfr := fun d (hd : d < P.orders.length) => tab_free h1 hd
 have hTl := tabTo_len U P.orders.length U.length
 obtain ⟨vo, vp, vc, rfl, h3⟩ := hpv
 have hp0 := PresP.box h3 31
 have hg0 : Ext w (w.alloc (.cells #[vo, vp, vc] 31)) := World.grownBy_alloc _ _ _
 have hu0 := Rows2.ext hu hg0
 obtain ⟨au, capu, rfl, _, _⟩ := Sl.shape hu
 obtain ⟨vo6, vp6, vc6, _, _, hc0, hc1, hc2, h36⟩ := hp0.at
 simp only [Nat.zero_add] at hc1 hc2
 have hcon := l12Table_ok P hP (w.alloc (.cells #[vo, vp, vc] 31)) (.agg #[vo6, vp6, vc6]) _ U Any Su ⟨_, _, _, rfl, h36⟩ hu0 h1 (by omega)
 obtain ⟨T, hT⟩ : ∃ T, T = tabTo U P.orders.length U.length := ⟨_, rfl⟩
 obtain ⟨N, hN⟩ : ∃ N, N = P.orders.length := ⟨_, rfl⟩
 rw [← hT] at hcon hfr hTl
 rw [← hN] at hfr hTl hn6
 have HF := Lib.hid (And.intro hfr (And.intro hTl hN)); clear hfr hTl hT hN hp0 hu h1 hul
 go_enter Tryz.func218, Tryz.ntmps218
 go_wp2_with fail
 clear hc0 hc1 hc2
 generalize hw0 : w.alloc (.cells #[vo, vp, vc] 31) = w0 at *
 clear hw0
 refine Calls.mono hcon ?_
 rintro e1 w1 ⟨tv, rfl, hg1, hTr⟩
 clear hcon
 obtain ⟨ta, tc, hte, _, _⟩ := Sl.shape hTr
 rw [HF.out.2.1] at hte
 subst hte
 have HT := Lib.hid hTr; clear hTr
 go_wp2
 go_loopw [6, 7] (fun ov dv wr => ∃ (d : Nat) (ow : Value), ow = ov ∧ dv = .int .i64 (d : Int) ∧ d ≤ N ∧ Ext w1 wr ∧ Own w1.heap.size wr ow (natI (frT U d))) (fun _ dv _ => N - (intOf dv).toNat)
 case atStart => exact ⟨0, _, rfl, rfl, by omega, World.grownBy_alloc _ _ _, own_lit0 (Nat.le_refl _) rfl⟩
 case round =>
  obtain ⟨d, ow, rfl, rfl, hd, hg, hO⟩ := hrel
  by_cases hlt : d < N
  ·have hlt' : (d : Int) < N := by omega
   obtain ⟨bb, off, a2, cap2, hab, _, _, hc, _⟩ := Rows2.at (Rows2.ext HT.out hg) d (by rw [HF.out.2.1]; exact hlt)
   subst hab
   have hfd := HF.out.1 d hlt
   have hlen := frT_len U d
   obtain ⟨L, hL⟩ : ∃ L, L = (gt T d).length := ⟨_, rfl⟩
   rw [← hL] at hc hfd
   clear hL
   by_cases hm : d ∈ U.map dep
   ·have hne : (L : Int) ≠ 0 := by
     have : L ≠ 0 := fun e => (hfd.1 e) hm
     omega
    have hst := frT_no hm
    have HS := Lib.hid hst; clear hst hfd hm hlen
    have hb : ((L : Int) == 0) = false := by simpa using hne
    clear hne
    go_wp2
    go_roundw
    case rel => exact ⟨d + 1, _, rfl, by go_num, by omega, hg, by rw [HS.out]; exact hO⟩
    case measure => simp [intOf]; omega
   ·obtain rfl : L = 0 := hfd.2 hm
    have hst : natI (frT U (d + 1)) = natI (frT U d) ++ [(d : Int)] := by rw [frT_yes hm]; unfold natI; rw [List.map_append]; rfl
    have hll : (natI (frT U d)).length ≤ 1000000 := by rw [natI_len]; omega
    have HS := Lib.hid (And.intro hst hll); clear hst hll hfd hm hlen
    go_wp2_with (at_builtin; go_must (refine wp_app_int rfl _ _ rfl w1.heap.size _ (natI (frT U d)) (d : Int) rfl wr hO rfl rfl HS.out.2 hg.size ?_); intro v5 w5 hO5 hg5)
    have hgx : Ext w1 w5 := grown_own hg hg5 (fun j hj hlt => by have := (hO.lt j hj).1; omega)
    rw [← HS.out.1] at hO5
    go_roundw
    case rel => exact ⟨d + 1, _, rfl, by go_num, by omega, hgx, hO5⟩
    case measure => simp [intOf]; omega
  ·have hde : d = N := by omega
   have hfin : Own w1.heap.size wr ow (natI (frI P U)) := by
    have e : frI P U = frT U d := by rw [hde, HF.out.2.2]; rfl
    rw [e]; exact hO
   have hgw := grown_trans hg0 (grown_trans hg1 hg)
   have hwz := (grown_trans hg0 hg1).size
   have HX := Lib.hid (hfin.weak hwz); clear hfin hO
   go_wp2
   go_ret
   exact ⟨_, rfl, hgw, HX.out⟩
set_option maxRecDepth 100000 in
set_option maxHeartbeats 2000000 in
theorem l14Index_ok (P : Pr) (G : Grp P) (w : World) (pv uv : Value) (U : List (List Int)) (Sp Su : Nat → Prop) (hpv : PresV Sp w pv P) (hu : Rows2 Su w uv U) (hU : SubB P U) :
  Calls Tryz.prog 161 #[pv, uv] w (Ret w fun _ v => v = .int .i64 ((szR P (frI P U).reverse : Nat) : Int)) := by
 have hP := G.v
 have h729 : ordP P ≤ 729 := hP.le729
 have hop := hP.ordP_pos
 obtain ⟨h1, _, _⟩ := G.seq_facts (G.subB hU)
 rw [← hU.2] at h1
 have hul := G.sub_len hU
 have hn6 := hP.n6
 have hb := prodU_729 hP h1 U.length (Nat.le_refl _)
 have hE := idx_div G hU
 obtain ⟨vo, vp, vc, rfl, h3⟩ := hpv
 have hp0 := PresP.box h3 31
 have hg0 : Ext w (w.alloc (.cells #[vo, vp, vc] 31)) := World.grownBy_alloc _ _ _
 have hu0 := Rows2.ext hu hg0
 obtain ⟨au, capu, rfl, _, _⟩ := Sl.shape hu
 obtain ⟨vo6, vp6, vc6, _, _, hc0, hc1, hc2, h36⟩ := hp0.at
 simp only [Nat.zero_add] at hc1 hc2
 have hor : ∀ w', Ext (w.alloc (.cells #[vo, vp, vc] 31)) w' → Calls Tryz.prog 63 #[.agg #[vo6, vp6, vc6]] w' (Ret w' fun _ v => v = .int .i64 (ordP P)) := fun w' h => l10Order_ok w' _ P Any hP ⟨_, _, _, rfl, Pres3.ext h36 h⟩
 have hsz : ∀ w', Ext (w.alloc (.cells #[vo, vp, vc] 31)) w' → Calls Tryz.prog 61 #[.agg #[vo6, vp6, vc6], .slice au U.length capu] w' (Ret w' fun _ v => v = .int .i64 (prodU P U U.length)) := fun w' h => l12Order_ok P hP w' _ _ U Any Su ⟨_, _, _, rfl, Pres3.ext h36 h⟩ (Rows2.ext hu0 h) h1 (by omega)
 obtain ⟨x, hx⟩ : ∃ x, x = ordP P := ⟨_, rfl⟩
 obtain ⟨y, hy⟩ : ∃ y, y = prodU P U U.length := ⟨_, rfl⟩
 rw [← hx] at h729 hop hE hor
 rw [← hy] at hb hE hsz
 have hyz : (y == 0) = false := by simp; omega
 have hyn : ¬ y = 0 := by omega
 have e2 : x.tdiv y = x / y := Int.tdiv_eq_ediv_of_nonneg (by omega)
 have hq0 : 0 ≤ x / y := Int.ediv_nonneg (by omega) (by omega)
 have hq1 : x / y ≤ x := Int.ediv_le_self _ (by omega)
 have e3 : IntKind.i64.wrap (x / y) = x / y := IntWalk.i64_in _ (by omega)
 have HX := Lib.hid (And.intro hE (And.intro hor hsz)); clear hx hy hE hor hsz hp0 hu h1 hul hn6
 go_enter Tryz.func161, Tryz.ntmps161
 go_wp2
 generalize hw0 : w.alloc (.cells #[vo, vp, vc] 31) = w0 at *
 clear hw0
 have f1 : ∀ w', Ext w0 w' → w'.cell? ⟨w.heap.size, 0, none⟩ = some vo6 := fun w' h => h.cell hc0 (by simp)
 have f2 : ∀ w', Ext w0 w' → w'.cell? ⟨w.heap.size, 1, none⟩ = some vp6 := fun w' h => h.cell hc1 (by simp)
 have f3 : ∀ w', Ext w0 w' → w'.cell? ⟨w.heap.size, 2, none⟩ = some vc6 := fun w' h => h.cell hc2 (by simp)
 clear hc0 hc1 hc2
 go_region_held3 (fun w' => Ext w0 w') (first | exact grown_drew _ _ | assumption)
  (first
   | (go_at_call 61; refine Calls.mono (Calls.rel (w0 := w0) (by assumption) (HX.out.2.2 _ (by assumption))) ?_; rintro eB wB ⟨vB, rfl, hgB, _, rfl⟩)
   | (go_at_call 63; refine Calls.mono (Calls.rel (w0 := w0) (by assumption) (HX.out.2.1 _ (by assumption))) ?_; rintro eA wA ⟨vA, rfl, hgA, _, rfl⟩))
 clear f1 f2 f3
 go_wp2
 go_ret
 exact ⟨_, rfl, grown_trans hg0 hgB, by rw [HX.out.1]; rfl⟩
theorem i64q {q : Nat} (h : q ≤ 1000000) : IntKind.i64.wrap (q : Int) = (q : Int) := IntWalk.i64_in _ (by omega)

theorem ordN_o {P : Pr} (G : Grp P) {i : Nat} (hi : i < P.orders.length) : gt P.orders i = ((ordN' P i : Nat) : Int) ∧ 2 ≤ ordN' P i ∧ ordN' P i ≤ 7 := by
 have h7 := G.v.ord7 i hi
 unfold ordN'
 omega
set_option maxRecDepth 100000 in
set_option maxHeartbeats 4000000 in
theorem l14Element_ok (P : Pr) (G : Grp P) (w : World) (pv uv : Value) (U : List (List Int)) (t0 : Nat) (Sp Su : Nat → Prop) (hpv : PresV Sp w pv P) (hu : Rows2 Su w uv U) (hU : SubB P U) (ht : t0 ≤ 1000000) :
  Calls Tryz.prog 162 #[pv, uv, .int .i64 (t0 : Int)] w (Ret w fun w' v => Own w.heap.size w' v (elR P (frI P U).reverse t0)) := by
 have hP := G.v
 have hn6 := hP.n6
 have hfl := frI_len P U
 have hfm : ∀ k, k < (frI P U).length → gt (frI P U) k < P.orders.length := fun k hk => (frI_mem.1 (gtMem hk)).1
 have hfin : insR P (frI P U).reverse t0 (zeros P.orders.length) = elR P (frI P U).reverse t0 := insR_eq P _ t0 ((List.reverse_perm _).nodup_iff.2 (frI_nodup P U))
 obtain ⟨vo, vp, vc, rfl, h3⟩ := hpv
 have hp0 := PresP.box h3 31
 have hg0 : Ext w (w.alloc (.cells #[vo, vp, vc] 31)) := World.grownBy_alloc _ _ _
 have hu0 := Rows2.ext hu hg0
 obtain ⟨au, capu, rfl, _, _⟩ := Sl.shape hu
 obtain ⟨vo6, vp6, vc6, _, _, hc0, hc1, hc2, h36⟩ := hp0.at
 simp only [Nat.zero_add] at hc1 hc2
 obtain ⟨F, hF⟩ : ∃ F, F = frI P U := ⟨_, rfl⟩
 obtain ⟨E, hEE⟩ : ∃ E, E = elR P (frI P U).reverse t0 := ⟨_, rfl⟩
 have hbx : ∀ w', Ext (w.alloc (.cells #[vo, vp, vc] 31)) w' → w'.cell? ⟨w.heap.size, 0, none⟩ = some vo6 ∧ w'.cell? ⟨w.heap.size, 1, none⟩ = some vp6 ∧ w'.cell? ⟨w.heap.size, 2, none⟩ = some vc6 := fun w' h => ⟨h.cell hc0 (by simp), h.cell hc1 (by simp), h.cell hc2 (by simp)⟩
 have hon := l10One_ok P hP (w.alloc (.cells #[vo, vp, vc] 31)) (.agg #[vo6, vp6, vc6]) Any ⟨_, _, _, rfl, h36⟩
 have hfe : ∀ w', Ext (w.alloc (.cells #[vo, vp, vc] 31)) w' → Calls Tryz.prog 218 #[.agg #[vo6, vp6, vc6], .slice au U.length capu] w' (Ret w' fun w'' v => Own w'.heap.size w'' v (natI F)) := fun w' h => by
  rw [hF]; exact l14Free_ok P G w' _ _ U Any Su ⟨_, _, _, rfl, Pres3.ext h36 h⟩ (Rows2.ext hu0 h) hU
 rw [← hEE] at hfin ⊢
 rw [← hF] at hfl hfm hfin
 obtain ⟨ao, co, hvo, _, _⟩ := h36.o.shape
 subst hvo
 have hord := h36.o
 have hlz : (zeros P.orders.length).length = P.orders.length := by simp [zeros]
 have HB := Lib.hid (And.intro hbx (And.intro hfin (And.intro hfm (And.intro hord (And.intro hlz hfe))))); clear hbx hfin hfm hp0 hu hF hEE hord h36 hlz hfe
 go_enter Tryz.func162, Tryz.ntmps162
 go_wp2_with fail
 clear hc0 hc1 hc2
 generalize hw0 : w.alloc (.cells #[vo, vp, vc] 31) = w0 at *
 clear hw0
 refine Calls.mono hon ?_
 rintro e1 w1 ⟨ov, rfl, hg1, hO1⟩
 clear hon
 obtain ⟨b0_, b1_, b2_⟩ := HB.out.1 w1 hg1
 go_wp2_with fail
 clear b0_ b1_ b2_
 refine Calls.mono (HB.out.2.2.2.2.2 w1 hg1) ?_
 rintro e2 w2 ⟨fv, rfl, hg2, hF2⟩
 have hO2 := hO1.ext0 hg2
 have hFi : Ints (fun k => w1.heap.size ≤ k) w2 fv (natI F) := ints_of_own hF2 (by rw [natI_len]; omega) (fun k hk => (hF2.lt k hk).1)
 obtain ⟨fa, fc, hfe, _, _⟩ := hFi.shape
 rw [natI_len] at hfe
 subst hfe
 have hz1 := hg1.size
 have hfx : ∀ w', World.grownBy w2 w' ov.ownBlock → Ints (fun k => w1.heap.size ≤ k) w' (.slice fa F.length fc) (natI F) := fun w' h =>
  Ints.mono hFi (frame_of h (fun k hk hlt => ⟨hk, fun e => by have := (hO1.lt k e).2; have hk : w1.heap.size ≤ k := hk; omega⟩))
 have hg02 := grown_trans hg1 hg2
 have hgl := hO1.lt
 clear hF2 hFi
 have HFX := Lib.hid (And.intro hfx hgl); clear hfx hgl
 have hXl0 : P.orders.length ≤ (zeros P.orders.length).length ∧ (zeros P.orders.length).length ≤ P.orders.length := by rw [HB.out.2.2.2.2.1]; exact ⟨Nat.le_refl _, Nat.le_refl _⟩
 go_wp2
 go_loopw [2, 9] (fun tv iv wr => ∃ (k t : Nat) (X : List Int), tv = .int .i64 (t : Int) ∧ iv = .int .i64 ((k : Int) - 1) ∧ k ≤ F.length ∧ t ≤ 1000000 ∧ Ext w0 wr ∧ World.grownBy w2 wr ov.ownBlock ∧ Own w0.heap.size wr ov X ∧ P.orders.length ≤ X.length ∧ X.length ≤ P.orders.length ∧ Hid (insR P (F.take k).reverse t X = E)) (fun _ iv _ => (intOf iv + 1).toNat)
 case atStart => exact ⟨F.length, t0, _, rfl, rfl, Nat.le_refl _, ht, hg02, by cases hb : ov.ownBlock <;> exact grown_refl _ _, hO2, hXl0.1, hXl0.2, Lib.hid (by rw [List.take_length]; exact HB.out.2.1)⟩
 case round =>
  obtain ⟨k, t, X, rfl, rfl, hk, ht', hg, hgO, hO, hX1, hX2, hX⟩ := hrel
  by_cases hlt : 0 < k
  ·obtain ⟨j, rfl⟩ : ∃ j, k = j + 1 := ⟨k - 1, by omega⟩
   have hjF : j < F.length := by omega
   have hd := HB.out.2.2.1 j hjF
   obtain ⟨hoe, ho2, ho7⟩ := ordN_o G hd
   have hst := insR_step P hjF t X
   rw [hX.out] at hst
   obtain ⟨fb, fo, hab, hSf, hfb, hcf⟩ := Ints.at (HFX.out.1 wr hgO) j (by rw [natI_len]; exact hjF)
   have hgf : gt (natI F) j = ((gt F j : Nat) : Int) := gt_map _ _ _ hjF
   rw [hgf] at hcf
   obtain ⟨ob, oo, hab2, _, hob, hco0⟩ := Ints.at HB.out.2.2.2.1 (gt F j) hd
   rw [hoe] at hco0
   obtain ⟨d, hde⟩ : ∃ d, d = gt F j := ⟨_, rfl⟩
   rw [← hde] at hcf hco0 hd hst ho2 ho7
   obtain ⟨o, hoE⟩ : ∃ o, o = ordN' P d := ⟨_, rfl⟩
   rw [← hoE] at hco0 hst ho2 ho7
   obtain ⟨g, cap, rfl, hbl, hsl⟩ := hO.form (by omega)
   have hgl := (HFX.out.2 g rfl).2
   cases hab
   cases hab2
   clear hde hoE hoe hgf
   obtain ⟨hO3, hg3⟩ := hO.store d ((t : Int) % (o : Int))
   have hgn : Ext w0 (wr.setCell ⟨g, d, none⟩ (.int .i64 ((t : Int) % (o : Int)))) := grown_own hg hg3 (fun j hj hlt => by have := Option.some.inj hj; omega)
   have hgOn : World.grownBy w2 (wr.setCell ⟨g, d, none⟩ (.int .i64 ((t : Int) % (o : Int)))) (some g) := grown_trans hgO hg3
   have hfg : w1.heap.size ≤ fb := hSf
   have c1 : wr.drew.cell? ⟨g, d, none⟩ = some (.int .i64 (gt X d)) := hO.cell d (by omega)
   have f1 : wr.drew.frozen? ⟨g, d, none⟩ = false := hO.frozen d
   have c2 : wr.drew.cell? ⟨ob, oo + d, none⟩ = some (.int .i64 (o : Int)) := hg.cell hco0 (by simp)
   have c3 : wr.drew.cell? ⟨fb, fo + j, none⟩ = some (.int .i64 (d : Int)) := hcf
   have c4 : wr.drew.cell? ⟨w.heap.size, 0, none⟩ = some (.slice (some ⟨ob, oo, none⟩) P.orders.length co) := (HB.out.1 wr hg).1
   have c5 : (wr.setCell ⟨g, d, none⟩ (.int .i64 ((t : Int) % (o : Int)))).cell? ⟨ob, oo + d, none⟩ = some (.int .i64 (o : Int)) := hgn.cell hco0 (by simp)
   have c6 : (wr.setCell ⟨g, d, none⟩ (.int .i64 ((t : Int) % (o : Int)))).cell? ⟨fb, fo + j, none⟩ = some (.int .i64 (d : Int)) := hg3.cell hcf (by simp; omega)
   have c7 : (wr.setCell ⟨g, d, none⟩ (.int .i64 ((t : Int) % (o : Int)))).cell? ⟨w.heap.size, 0, none⟩ = some (.slice (some ⟨ob, oo, none⟩) P.orders.length co) := (HB.out.1 _ hgn).1
   have hm : (t : Int) % (o : Int) = ((t % o : Nat) : Int) := rfl
   have hq : (t : Int) / (o : Int) = ((t / o : Nat) : Int) := rfl
   have htq : t / o ≤ 1000000 := Nat.le_trans (Nat.div_le_self _ _) ht'
   have e1 : (t : Int).tmod (o : Int) = (t : Int) % (o : Int) := Int.tmod_eq_emod_of_nonneg (by omega)
   have e2 : (t : Int).tdiv (o : Int) = (t : Int) / (o : Int) := Int.tdiv_eq_ediv_of_nonneg (by omega)
   have e3 : IntKind.i64.wrap ((t : Int) / (o : Int)) = (t : Int) / (o : Int) := by rw [hq]; exact i64q htq
   have e4 : IntKind.i64.wrap ((t : Int) % (o : Int)) = (t : Int) % (o : Int) := by rw [hm]; exact i64q (Nat.le_trans (Nat.le_of_lt (Nat.mod_lt t (show 0 < o by omega))) (by omega))
   have HE := Lib.hid (And.intro e1 (And.intro e2 (And.intro e3 e4)))
   have HS := Lib.hid (And.intro hst (And.intro hO3 (And.intro hgOn (And.intro hgn (And.intro hm (And.intro hq htq)))))); clear hst hO3 hgOn hgn hm hq htq hg3 hO hgO e1 e2 e3 e4 hcf hco0
   have hj1 : ((j + 1 : Nat) : Int) - 1 = (j : Int) := by omega
   rw [hj1]
   clear hj1
   have hjl : (j : Int) < F.length := by omega
   have hon : ((o : Int) == 0) = false := by simp; omega
   have hon1 : ¬ (o : Int) = 0 := by omega
   have hon2 : ¬ o = 0 := by omega
   have hdX : d < X.length := by omega
   go_wp2
   obtain ⟨e1, e2, e3, e4⟩ := HE.out
   go_still_tail 16, (by kernel_rfl)
   change wpList _ _ _ _ _ wr.drew
   clear e1 e2 e3 e4 c2 c3 c4
   go_wp2
   clear c1 f1
   generalize wr.setCell ⟨g, d, none⟩ (.int .i64 ((t : Int) % (o : Int))) = wx at *
   obtain ⟨e1, e2, e3, e4⟩ := HE.out
   go_quiet (fail)
   clear e1 e2 e3 e4 c5 c6 c7
   rename_i nq _
   have hgf : Ext w0 (wx.drewN (1 + nq)) := grown_trans HS.out.2.2.2.1 (grown_drewN _ _ _)
   go_wp2
   go_roundw
   case rel => exact ⟨j, t / o, X.set d (((t % o : Nat) : Int)), by rw [← HS.out.2.2.2.2.2.1], by go_num, by omega, HS.out.2.2.2.2.2.2, hgf, grown_trans HS.out.2.2.1 (grown_drewN _ _ _), HS.out.2.1, by rw [List.length_set]; omega, by rw [List.length_set]; omega, Lib.hid HS.out.1.symm⟩
   case measure => simp [intOf]
  ·have hk0 : k = 0 := by omega
   subst hk0
   have hfin : X = E := by rw [← hX.out]; rfl
   subst hfin
   have hgw := grown_trans hg0 hg
   have hwz := hg0.size
   have HE := Lib.hid (hO.weak hwz); clear hO hX
   go_wp2
   go_ret
   exact ⟨_, rfl, hgw, HE.out⟩
set_option maxRecDepth 100000 in
set_option maxHeartbeats 4000000 in
theorem sFix_ok (P : Pr) (hr : rconsB P = true) (w : World) (pv uv vv : Value) (U V : List (List Int)) (Sp Su Sv : Nat → Prop) (hpv : PresV Sp w pv P) (hu : Rows2 Su w uv U) (hv : Rows2 Sv w vv V) (hU : SubB P U) (hV : SubB P V) (h128 : ordP P ≤ 128) :
  Calls Tryz.prog 104 #[pv, uv, vv] w (Ret w fun _ v => v = .tuple #[.int .i64 (fixN P U V : Nat), .int .i64 0]) := by
 have G := grp_of_r hr
 have hP := G.v
 have hn6 := hP.n6
 have hul := G.sub_len hU
 have hvl := G.sub_len hV
 have hsz := G.idx_le hU
 have S := G.subB hU
 obtain ⟨vo, vp, vc, rfl, h3⟩ := hpv
 have hp0 := PresP.box h3 31
 have hg0 : Ext w (w.alloc (.cells #[vo, vp, vc] 31)) := World.grownBy_alloc _ _ _
 have hu0 := Rows2.ext hu hg0
 have hv0 := Rows2.ext hv hg0
 obtain ⟨au, capu, rfl, _, _⟩ := Sl.shape hu
 obtain ⟨av, capv, rfl, _, _⟩ := Sl.shape hv
 obtain ⟨vo6, vp6, vc6, _, _, hc0, hc1, hc2, h36⟩ := hp0.at
 simp only [Nat.zero_add] at hc1 hc2
 have hbx : ∀ w', Ext (w.alloc (.cells #[vo, vp, vc] 31)) w' → w'.cell? ⟨w.heap.size, 0, none⟩ = some vo6 ∧ w'.cell? ⟨w.heap.size, 1, none⟩ = some vp6 ∧ w'.cell? ⟨w.heap.size, 2, none⟩ = some vc6 := fun w' h => ⟨h.cell hc0 (by simp), h.cell hc1 (by simp), h.cell hc2 (by simp)⟩
 have hpx : ∀ w', Ext (w.alloc (.cells #[vo, vp, vc] 31)) w' → PresV Any w' (.agg #[vo6, vp6, vc6]) P := fun w' h => ⟨_, _, _, rfl, Pres3.ext h36 h⟩
 have hix : ∀ w', Ext (w.alloc (.cells #[vo, vp, vc] 31)) w' → Calls Tryz.prog 161 #[.agg #[vo6, vp6, vc6], .slice au U.length capu] w' (Ret w' fun _ v => v = .int .i64 ((szR P (frI P U).reverse : Nat) : Int)) := fun w' h => l14Index_ok P G w' _ _ U Any Su (hpx w' h) (Rows2.ext hu0 h) hU
 have hel : ∀ w', Ext (w.alloc (.cells #[vo, vp, vc] 31)) w' → ∀ t : Nat, t ≤ 1000000 → Calls Tryz.prog 162 #[.agg #[vo6, vp6, vc6], .slice au U.length capu, .int .i64 (t : Int)] w' (Ret w' fun w'' v => Own w'.heap.size w'' v (elR P (frI P U).reverse t)) := fun w' h t ht => l14Element_ok P G w' _ _ U t Any Su (hpx w' h) (Rows2.ext hu0 h) hU ht
 have hwi : ∀ w', Ext (w.alloc (.cells #[vo, vp, vc] 31)) w' → ∀ (x : List Int) (cv : Value), Vec P.orders x → Rows2 Any w' cv (cseq P (genP P (fun z => z ∈ conjL P V x))) → Calls Tryz.prog 89 #[.agg #[vo6, vp6, vc6], cv, .slice au U.length capu] w' (Ret w' fun _ v => ∃ r : Bool, v = .bool r ∧ (r = true ↔ ∀ y ∈ V, gP P U (rConj P y x))) := fun w' h x cv hx hcv => by
  have R : Sub P (genP P (fun z => z ∈ conjL P V x)) := G.genP_sub (fun z hz => by
   unfold conjL at hz
   obtain ⟨y, hy, rfl⟩ := List.mem_map.1 hz
   exact G.conjV (hV.1 y hy) hx)
  have hu' : Rows2 Su w' (.slice au U.length capu) (cseq P (gP P U)) := by rw [← hU.2]; exact Rows2.ext hu0 h
  refine Calls.mono (l12Within_ok P G w' _ cv _ _ (gP P U) Any Any Su S (hpx w' h) hcv (fun z hz => R.vec z ((G.seq_facts R).2.1 z hz)) hu') ?_
  rintro e1 w1 ⟨v1, rfl, hg1, r, rfl, hr1⟩
  exact ⟨_, rfl, hg1, r, rfl, hr1.trans (G.conj_within hU hV hx)⟩
 have hcj : ∀ w', Ext (w.alloc (.cells #[vo, vp, vc] 31)) w' → ∀ (x : List Int) (xv : Value), Vec P.orders x → Ints Any w' xv x → Calls Tryz.prog 129 #[.agg #[vo6, vp6, vc6], .slice av V.length capv, xv] w' (Ret w' fun w'' v => Rows2 Any w'' v (cseq P (genP P (fun z => z ∈ conjL P V x)))) := fun w' h x xv hx hxv => l13Conj_ok P G w' _ _ _ V x Any Sv Any (hpx w' h) (Rows2.ext hv0 h) hV.1 (by omega) hxv hx
 have htw := l13Two_ok P (w.alloc (.cells #[vo, vp, vc] 31)) (.agg #[vo6, vp6, vc6]) _ _ U V Any Su Sv ⟨_, _, _, rfl, h36⟩ hu0 hv0
 obtain ⟨N, hN⟩ : ∃ N, N = szR P (frI P U).reverse := ⟨_, rfl⟩
 have hzr : ∀ t, Vec P.orders (elR P (frI P U).reverse t) := fun t => (elR_zr G t).1
 have hall := fixTo_all (P := P) U V
 rw [← hN] at hsz hix hall
 have HB := Lib.hid (And.intro hbx (And.intro hix (And.intro hel (And.intro hwi (And.intro hcj (And.intro hzr (And.intro hall hn6))))))); clear hbx hix hel hwi hcj hzr hall hN hp0 hu hv hu0 hv0 h36 hpx S
 go_enter Tryz.func104, Tryz.ntmps104
 go_wp2_with fail
 clear hc0 hc1 hc2
 generalize hw0 : w.alloc (.cells #[vo, vp, vc] 31) = w0 at *
 clear hw0
 refine Calls.mono htw ?_
 rintro e1 w1 ⟨v1, rfl, hg1, r1, rfl, hr1⟩
 clear htw
 obtain rfl : r1 = true := hr1.2 ⟨hr, hU, hV⟩
 clear hr1
 obtain ⟨b0_, b1_, b2_⟩ := HB.out.1 w1 hg1
 go_wp2_with fail
 clear b0_ b1_ b2_
 refine Calls.mono (HB.out.2.1 w1 hg1) ?_
 rintro e2 w2 ⟨v2, rfl, hg2, rfl⟩
 have hg02 := grown_trans hg1 hg2
 have hng : ¬ (128 : Int) < (N : Int) := by omega
 go_wp2
 clear hng
 go_loopw [8, 9] (fun nv tv wr => ∃ (t n : Nat), nv = .int .i64 (n : Int) ∧ tv = .int .i64 (t : Int) ∧ t ≤ N ∧ n ≤ t ∧ Ext w0 wr ∧ Hid (n = fixTo P U V t)) (fun _ tv _ => N - (intOf tv).toNat)
 case atStart => exact ⟨0, 0, rfl, rfl, by omega, by omega, hg02, Lib.hid (by have := fixTo_le (P := P) U V 0; omega)⟩
 case round =>
  obtain ⟨t, n, rfl, rfl, ht, hnt, hg, hN⟩ := hrel
  obtain ⟨b0_, b1_, b2_⟩ := HB.out.1 wr hg
  go_wp2_with fail
  clear b0_ b1_ b2_
  refine Calls.mono (HB.out.2.1 wr hg) ?_
  rintro e3 w3 ⟨v3, rfl, hg3, rfl⟩
  have hg03 := grown_trans hg hg3
  by_cases hlt : t < N
  ·have hlt' : (t : Int) < N := by omega
   have hyes := fixTo_yes (P := P) (U := U) (V := V) (k := t)
   have hno := fixTo_no (P := P) (U := U) (V := V) (k := t)
   have hxV := HB.out.2.2.2.2.2.1 t
   have hle := HB.out.2.2.1
   obtain ⟨x, hx⟩ : ∃ x, x = elR P (frI P U).reverse t := ⟨_, rfl⟩
   have hel : ∀ w', Ext w0 w' → Calls Tryz.prog 162 #[.agg #[vo6, vp6, vc6], .slice au U.length capu, .int .i64 (t : Int)] w' (Ret w' fun w'' v => Own w'.heap.size w'' v x) := fun w' h => by rw [hx]; exact hle w' h t (by omega)
   rw [← hx] at hyes hno hxV
   have HX := Lib.hid (And.intro hyes (And.intro hno (And.intro hxV hel))); clear hyes hno hxV hel hle hx
   have e1 : ∀ w', Ext w3 w' → w'.cell? ⟨w.heap.size, 0, none⟩ = some vo6 := fun w' h => (HB.out.1 w' (grown_trans hg03 h)).1
   have e2 : ∀ w', Ext w3 w' → w'.cell? ⟨w.heap.size, 1, none⟩ = some vp6 := fun w' h => (HB.out.1 w' (grown_trans hg03 h)).2.1
   have e3 : ∀ w', Ext w3 w' → w'.cell? ⟨w.heap.size, 2, none⟩ = some vc6 := fun w' h => (HB.out.1 w' (grown_trans hg03 h)).2.2
   go_wp2
   go_region_held3 (fun w' => Ext w3 w') (first | exact grown_drew _ _ | exact Ext.refl _ | assumption)
    (first
     | (go_at_call 89; refine Calls.mono (Calls.rel (w0 := w3) (by assumption) (HB.out.2.2.2.1 _ (grown_trans hg03 (by assumption)) x _ HX.out.2.2.1 hCi)) ?_; rintro eD wD ⟨vD, rfl, hgD, _, r, rfl, hrD⟩)
     | (go_at_call 129; refine Calls.mono (Calls.rel (w0 := w3) (by assumption) (HB.out.2.2.2.2.1 _ (grown_trans hg03 (by assumption)) x _ HX.out.2.2.1 hEi)) ?_; rintro eC wC ⟨vC, rfl, hgC, _, hCi⟩; obtain ⟨ac, cc, hvC, _, _⟩ := Sl.shape hCi; subst hvC)
     | (go_at_call 162; refine Calls.mono (Calls.rel (w0 := w3) (by assumption) (HX.out.2.2.2 _ (grown_trans hg03 (by assumption)))) ?_; rintro eE wE ⟨vE, rfl, hgE, _, hEO⟩; have hEi : Ints Any wE vE x := ints_of_own hEO (by have := HX.out.2.2.1.1; have := HB.out.2.2.2.2.2.2.2; omega) (fun _ _ => trivial); obtain ⟨ae, ce, hvE, _, _⟩ := hEi.shape; subst hvE))
   clear e1 e2 e3
   have hgD0 := grown_trans hg03 hgD
   cases r with
   | true =>
    have h1 := HX.out.1 (hrD.1 rfl)
    have hn1 : n + 1 = fixTo P U V (t + 1) := by rw [h1, ← hN.out]
    have HN1 := Lib.hid hn1; clear hn1 h1 hrD hN
    go_wp2
    go_roundw
    case rel => exact ⟨t + 1, n + 1, by go_num, by go_num, by omega, by omega, hgD0, HN1⟩
    case measure => simp [intOf]; omega
   | false =>
    have h1 := HX.out.2.1 (fun hh => by have := hrD.2 hh; cases this)
    have hn1 : n = fixTo P U V (t + 1) := by rw [h1, ← hN.out]
    have HN1 := Lib.hid hn1; clear hn1 h1 hrD hN
    go_wp2
    go_roundw
    case rel => exact ⟨t + 1, n, rfl, by go_num, by omega, by omega, hgD0, HN1⟩
    case measure => simp [intOf]; omega
  ·have hte : t = N := by omega
   have hfin : n = fixN P U V := by rw [hN.out, hte, HB.out.2.2.2.2.2.2.1]
   have HF := Lib.hid hfin; clear hfin
   have hgw := grown_trans hg0 hg03
   have hnl : ¬ (t : Int) < (N : Int) := by omega
   go_wp2
   go_ret2
   exact ⟨_, rfl, hgw, by rw [HF.out]; rfl⟩
end Go.Proofs.YtdklekdpdbjfiaaGreat
