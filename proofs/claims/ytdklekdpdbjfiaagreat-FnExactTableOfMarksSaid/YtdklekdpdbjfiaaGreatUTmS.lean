/-
  TableOfMarks: the reference's side.
-/
import Derived.Test.YtdklekdpdbjfiaaGreatUTmL
import Derived.Test.YtdklekdpdbjfiaaGreatUFixS
namespace Go.Proofs.YtdklekdpdbjfiaaGreat
open Go.RowKit
theorem rows2_nilT (w : World) : Rows2 Any w (.slice none 0 0) [] := ⟨none, 0, rfl, ⟨by simp, by simp, fun _ => rfl⟩, fun i hi => by simp at hi⟩
set_option maxRecDepth 100000 in
set_option maxHeartbeats 4000000 in
theorem sTm_ok (P : Pr) (w : World) (pv : Value) (Sp : Nat → Prop) (hpv : PresV Sp w pv P) :
  Calls Tryz.prog 55 #[pv] w (Ret w fun w' v => ∃ a n c, v = .tuple #[.slice a n c, .int .i64 (tmC P)] ∧ Rows2 Any w' (.slice a n c) (tmL P)) := by
 obtain ⟨vo, vp, vc, rfl, h3⟩ := hpv
 have hp0 := PresP.box h3 31
 have hg0 : Ext w (w.alloc (.cells #[vo, vp, vc] 31)) := World.grownBy_alloc _ _ _
 obtain ⟨vo6, vp6, vc6, _, _, hc0, hc1, hc2, h36⟩ := hp0.at
 simp only [Nat.zero_add] at hc1 hc2
 have hbx : ∀ w', Ext (w.alloc (.cells #[vo, vp, vc] 31)) w' → w'.cell? ⟨w.heap.size, 0, none⟩ = some vo6 ∧ w'.cell? ⟨w.heap.size, 1, none⟩ = some vp6 ∧ w'.cell? ⟨w.heap.size, 2, none⟩ = some vc6 := fun w' h => ⟨h.cell hc0 (by simp), h.cell hc1 (by simp), h.cell hc2 (by simp)⟩
 have hpx : ∀ w', Ext (w.alloc (.cells #[vo, vp, vc] 31)) w' → PresV Any w' (.agg #[vo6, vp6, vc6]) P := fun w' h => ⟨_, _, _, rfl, Pres3.ext h36 h⟩
 have HB := Lib.hid (And.intro hbx hpx); clear hbx hpx hp0
 have hcd := l19Code_ok P _ (.agg #[vo6, vp6, vc6]) Any ⟨_, _, _, rfl, h36⟩
 clear h36
 go_enter Tryz.func55, Tryz.ntmps55
 go_wp2_with fail
 clear hc0 hc1 hc2
 generalize hw0 : w.alloc (.cells #[vo, vp, vc] 31) = w0 at *
 clear hw0
 refine Calls.mono hcd ?_
 rintro e1 w1 ⟨v1, rfl, hg1, rfl⟩
 clear hcd
 have hgw1 := grown_trans hg0 hg1
 by_cases hz : latC P = 0
 ·have hr := (latC_zero hz).1
  have G := grp_of_r hr
  have h32 := (latC_zero hz).2
  have hbg := fun h => tm_big (P := P) hz h
  have hok := fun h => tm_ok (P := P) hz h
  have hsb := fun L (hL : LatL P L) => clsF_sub hz hL
  have hcl := fun L (hL : LatL P L) => (cls_ok hz hL).1
  have hbd := (cls_bd P).1
  have hcs := l19Classes_ok P G w1 _ Any h32 (HB.out.2 w1 hg1)
  obtain ⟨c, hc⟩ : ∃ c, c = latC P := ⟨_, rfl⟩
  have hc0 : c = 0 := by rw [hc]; exact hz
  rw [← hc]
  have HC := Lib.hid (And.intro hbg (And.intro hok (And.intro hsb (And.intro hcl hr)))); clear hbg hok hsb hcl hz hr hc
  subst hc0
  obtain ⟨b0_, b1_, b2_⟩ := HB.out.1 w1 hg1
  go_wp2_with fail
  clear b0_ b1_ b2_
  refine Calls.mono hcs ?_
  rintro e2 w2 ⟨v2, rfl, hg2, fv, zv, rfl, L, hL, hR3, hZ⟩
  clear hcs
  have hsub := HC.out.2.2.1 L hL
  rw [← HC.out.2.2.2.1 L hL] at hR3
  obtain ⟨za, zn, zc, hze⟩ : ∃ a n c, zv = .slice a n c := by
   obtain ⟨a, c, e, _⟩ := (hZ.ints (by rw [natI_len]; have := (clS_len P L L.length); have := G.lat_len h32 hL; omega)).shape; exact ⟨_, _, _, e⟩
  subst hze
  clear hZ hL
  obtain ⟨F, hF⟩ : ∃ F, F = clsF P := ⟨_, rfl⟩
  have hbg := HC.out.1
  have hok := HC.out.2.1
  rw [← hF] at hR3 hsub hbd hbg hok
  obtain ⟨ra, rc, hre, _, _⟩ := Sl.shape hR3
  subst hre
  have HD := Lib.hid (And.intro hbg (And.intro hok (And.intro hsub HC.out.2.2.2.2))); clear hbg hok hsub hF HC
  have hgw2 := grown_trans hgw1 hg2
  have hg02 := grown_trans hg1 hg2
  by_cases hbig : 24 < F.length
  ·have hb' : (24 : Int) < F.length := by omega
   have h3 := HD.out.1 hbig
   have H3 := Lib.hid h3; clear h3
   go_wp2
   refine bodyPost_ret (v := .tuple #[.slice none 0 0, .int .i64 3]) (by simp [results, Tryz.results55, go_sem]) rfl ?_
   exact ⟨_, rfl, hgw2, none, 0, 0, by rw [H3.out.1], by rw [H3.out.2]; exact rows2_nilT _⟩
  ·have hb' : ¬ (24 : Int) < F.length := by omega
   have hok := HD.out.2.1 hbig
   have hN : F.length ≤ 24 := by omega
   have HK := Lib.hid hok; clear hok hbd hbig
   have HR := Lib.hid hR3; clear hR3
   obtain ⟨N, hNF⟩ : ∃ N, N = F.length := ⟨_, rfl⟩
   have hTl : (F.map (fun u => tmR P u F)).length = N := by rw [List.length_map, hNF]
   rw [← hNF] at hN hb'
   rw [← hNF]
   have HN := Lib.hid (And.intro hNF hTl); clear hNF hTl
   go_wp2
   go_loopw [7, 8] (fun ov iv wr => ∃ (i : Nat) (v4 : Value), v4 = ov ∧ iv = .int .i64 i ∧ i ≤ N ∧ Ext w2 wr ∧ RowsO w2.heap.size wr v4 ((F.map (fun u => tmR P u F)).take i)) (fun _ iv _ => N - (intOf iv).toNat)
   case atStart => exact ⟨0, _, rfl, rfl, by omega, World.grownBy_alloc _ _ _, ⟨[], fun _ _ => False, rfl, World.ownsRow_lit w2 #[] 0 (Nat.le_refl _) (by decide) rfl, by simp, by simp, by simp⟩⟩
   case round =>
    obtain ⟨i, v4, rfl, rfl, hi, hg, hO⟩ := hrel
    by_cases hlt : i < N
    ·have hlt' : (i : Int) < N := by omega
     have hiF : i < F.length := by rw [← HN.out.1]; exact hlt
     obtain ⟨bx, ox, a2, cap2, hab, _, _, hcx, hrx⟩ := Rows3.at (Rows3.ext HR.out hg) i hiF
     subst hab
     have hU := HD.out.2.2.1 _ (gtMem hiF)
     have hst := tmL_step P F i hiF
     obtain ⟨U, hUe⟩ : ∃ U, U = gt F i := ⟨_, rfl⟩
     rw [← hUe] at hcx hrx hU hst
     have HU := Lib.hid (And.intro hU (And.intro hst hcx)); clear hU hst hUe hcx
     go_wp2
     obtain ⟨wo, rfl⟩ : ∃ wo : World, wo = wr := ⟨_, rfl⟩
     have hgwo := grown_trans hg02 hg
     go_loopw [9, 10] (fun rv jv wr => ∃ (j : Nat) (v7 : Value), v7 = rv ∧ jv = .int .i64 j ∧ j ≤ N ∧ Ext wo wr ∧ Own wo.heap.size wr v7 ((tmR P U F).take j)) (fun _ jv _ => N - (intOf jv).toNat)
     case atStart => exact ⟨0, _, rfl, rfl, by omega, World.grownBy_alloc _ _ _, World.ownsRow_lit wo #[] 0 (Nat.le_refl _) (by decide) rfl⟩
     case round =>
      obtain ⟨j, v7, rfl, rfl, hj, hgj, hR⟩ := hrel
      have hgj0 := grown_trans hgwo hgj
      have hg2j := grown_trans hg hgj
      by_cases hltj : j < N
      ·have hltj' : (j : Int) < N := by omega
       have hjF : j < F.length := by rw [← HN.out.1]; exact hltj
       obtain ⟨by', oy, a3, cap3, hab, _, _, hcy, hry⟩ := Rows3.at (Rows3.ext HR.out hg2j) j hjF
       cases hab
       have hV := HD.out.2.2.1 _ (gtMem hjF)
       have hst := tmR_step P U F j hjF
       obtain ⟨V, hVe⟩ : ∃ V, V = gt F j := ⟨_, rfl⟩
       rw [← hVe] at hcy hry hV hst
       obtain ⟨m, hm⟩ : ∃ m : Int, m = ((fixN P U V : Nat) : Int) := ⟨_, rfl⟩
       rw [← hm] at hst
       have hlen : ((tmR P U F).take j).length ≤ 1000000 := by rw [List.length_take, tmR_len]; omega
       have hfx : ∀ w', Ext wr w' → Calls Tryz.prog 104 #[.agg #[vo6, vp6, vc6], .slice a2 U.length cap2, .slice a3 V.length cap3] w' (Ret w' fun _ v => v = .tuple #[.int .i64 m, .int .i64 0]) := fun w' h => by
        rw [hm]
        exact sFix_ok P HD.out.2.2.2 w' _ _ _ U V Any _ _ (HB.out.2 w' (grown_trans hgj0 h)) (Rows2.ext hrx (grown_trans hgj h)) (Rows2.ext hry h) HU.out.1 hV (by omega)
       have HV := Lib.hid (And.intro hst (And.intro hlen hfx)); clear hst hlen hm hV hVe hfx
       have f1 : ∀ w', Ext wr w' → w'.cell? ⟨w.heap.size, 0, none⟩ = some vo6 := fun w' h => (HB.out.1 w' (grown_trans hgj0 h)).1
       have f2 : ∀ w', Ext wr w' → w'.cell? ⟨w.heap.size, 1, none⟩ = some vp6 := fun w' h => (HB.out.1 w' (grown_trans hgj0 h)).2.1
       have f3 : ∀ w', Ext wr w' → w'.cell? ⟨w.heap.size, 2, none⟩ = some vc6 := fun w' h => (HB.out.1 w' (grown_trans hgj0 h)).2.2
       have f4 : ∀ w', Ext wr w' → w'.cell? ⟨bx, ox + i, none⟩ = some (.slice a2 U.length cap2) := fun w' h => (grown_trans hgj h).cell HU.out.2.2 (by simp)
       have f5 : ∀ w', Ext wr w' → w'.cell? ⟨bx, ox + j, none⟩ = some (.slice a3 V.length cap3) := fun w' h => h.cell hcy (by simp)
       clear hcy
       go_wp2
       go_region_held3 (fun w' => Ext wr w') (first | exact grown_drew _ _ | exact Ext.refl _ | assumption)
        (first
         | (go_at_call 104; refine Calls.mono (Calls.rel (w0 := wr) (by assumption) (HV.out.2.2 _ (by assumption))) ?_; rintro eA wA ⟨vA, rfl, hgA, _, rfl⟩))
       clear f1 f2 f3 f4 f5
       have hRA := hR.ext0 hgA
       have hgjA := grown_trans hgj hgA
       go_wp2_with (at_builtin; go_must (refine wp_app_int rfl _ _ rfl wo.heap.size _ ((tmR P U F).take j) m rfl wA hRA rfl rfl HV.out.2.1 hgjA.size ?_); intro v8 w8 hR8 hg8)
       have hgj8 : Ext wo w8 := grown_own hgjA hg8 (fun b hb hlt => by have := (hRA.lt b hb).1; omega)
       rw [← HV.out.1] at hR8
       clear hR hRA hg8
       go_roundw
       case rel => exact ⟨j + 1, v8, rfl, by go_num, by omega, hgj8, hR8⟩
       case measure => simp [intOf]; omega
      ·have hje : j = N := by omega
       subst hje
       have hRl : (tmR P U F).length = j := by rw [tmR_len, HN.out.1]
       have hR2 : Own wo.heap.size wr v7 (tmR P U F) := by rw [List.take_of_length_le (by omega)] at hR; exact hR
       have hrow : OwnIn (From wo.heap.size) wr v7 (tmR P U F) := OwnIn.of hR2 (by omega) (fun k hk _ => hk)
       obtain ⟨a7, c7, hv7, _, _⟩ := hrow.ints.shape
       subst hv7
       have hlen : ((F.map (fun u => tmR P u F)).take i).length ≤ 1000000 := by rw [List.length_take]; omega
       have HZ := Lib.hid hlen; clear hlen hRl hR
       go_wp2_with (at_builtin; go_must (refine wp_app_row rfl _ _ rfl w2.heap.size wo wr _ _ ((F.map (fun u => tmR P u F)).take i) (tmR P U F) rfl hO hgj hrow rfl rfl HZ.out hg.size ?_); intro v5 w5 hO5 hg5 _)
       have hgw5 : Ext w2 w5 := grown_own hg hg5 (fun b hb hlt => by have := (hO.lt b hb).1; omega)
       rw [← HU.out.2.1] at hO5
       clear hO hrow hg5 hR2
       go_roundw
       case rel => exact ⟨i + 1, v5, rfl, by go_num, by omega, hgw5, hO5⟩
       case measure => simp [intOf]; omega
    ·have hie : i = N := by omega
     subst hie
     have hfin : RowsO w2.heap.size wr v4 (tmL P) := by
      rw [List.take_of_length_le (by rw [HN.out.2]; exact Nat.le_refl _)] at hO
      rw [HK.out.2]; exact hO
     have hln := tmL_len P
     have hfw : Rows2 Any wr v4 (tmL P) := Rows2.sub (RowsD.rows (SlO.toD hfin (by omega))) (fun _ _ _ => trivial)
     obtain ⟨ta, tc, hte, _, _⟩ := Sl.shape hfw
     obtain ⟨K, hK⟩ : ∃ K, K = (tmL P).length := ⟨_, rfl⟩
     rw [← hK] at hte
     subst hte
     have HE := Lib.hid hfw; clear hO hfin hfw hln hK
     go_wp2
     refine bodyPost_ret (v := .tuple #[.slice ta K tc, .int .i64 0]) (by simp [results, Tryz.results55, go_sem]) rfl ?_
     exact ⟨_, rfl, grown_trans hgw2 hg, _, _, _, by rw [HK.out.1], HE.out⟩
 ·have hall := tm_no hz
  obtain ⟨c, hc⟩ : ∃ c, c = latC P := ⟨_, rfl⟩
  rw [← hc] at hz hall ⊢
  have hne : (c != 0) = true := by simpa using hz
  have HC := Lib.hid hall; clear hc hall
  go_wp2
  refine bodyPost_ret (v := .tuple #[.slice none 0 0, .int .i64 c]) (by simp [results, Tryz.results55, go_sem]) rfl ?_
  exact ⟨_, rfl, hgw1, none, 0, 0, by rw [HC.out.1], by rw [HC.out.2]; exact rows2_nilT _⟩
end Go.Proofs.YtdklekdpdbjfiaaGreat
