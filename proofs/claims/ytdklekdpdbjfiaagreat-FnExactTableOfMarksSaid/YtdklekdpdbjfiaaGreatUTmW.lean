/-
  TableOfMarks: the program's side.
-/
import Derived.Test.YtdklekdpdbjfiaaGreatUTmL
import Derived.Test.YtdklekdpdbjfiaaGreatUFixW6
namespace Go.Proofs.YtdklekdpdbjfiaaGreat
open Go.RowKit
set_option maxRecDepth 100000 in
set_option maxHeartbeats 4000000 in
theorem iTm_ok (P : Pr) (w : World) (pv : Value) (Sp : Nat → Prop) (hpv : PresV Sp w pv P) :
  Calls Tryz.prog 56 #[pv] w (Ret w fun w' v => ∃ a n c, v = .tuple #[.slice a n c, .int .i64 (tmC P)] ∧ RowsO w.heap.size w' (.slice a n c) (tmL P)) := by
 obtain ⟨vo, vp, vc, rfl, h3⟩ := hpv
 have hp0 := PresP.box h3 31
 have hg0 : Ext w (w.alloc (.cells #[vo, vp, vc] 31)) := World.grownBy_alloc _ _ _
 have hlat := latticeOf_ok P _ _ Any hp0
 obtain ⟨vo6, vp6, vc6, _, _, hc0, hc1, hc2, h36⟩ := hp0.at
 simp only [Nat.zero_add] at hc1 hc2
 have hbx : ∀ w', Ext (w.alloc (.cells #[vo, vp, vc] 31)) w' → w'.cell? ⟨w.heap.size, 0, none⟩ = some vo6 ∧ w'.cell? ⟨w.heap.size, 1, none⟩ = some vp6 ∧ w'.cell? ⟨w.heap.size, 2, none⟩ = some vc6 := fun w' h => ⟨h.cell hc0 (by simp), h.cell hc1 (by simp), h.cell hc2 (by simp)⟩
 have hpx : ∀ w', Ext (w.alloc (.cells #[vo, vp, vc] 31)) w' → PresV Any w' (.agg #[vo6, vp6, vc6]) P := fun w' h => ⟨_, _, _, rfl, Pres3.ext h36 h⟩
 have HB := Lib.hid (And.intro hbx hpx); clear hbx hpx hc0 hc1 hc2 h36
 go_enter Tryz.func56, Tryz.ntmps56
 go_wp2_with fail
 generalize hw0 : w.alloc (.cells #[vo, vp, vc] 31) = w0 at *
 clear hw0
 refine Calls.mono hlat ?_
 rintro e1 w1 ⟨v1, rfl, hg1, lp, rfl, hno, hyes⟩
 clear hlat
 have hgw1 := grown_trans hg0 hg1
 by_cases hz : latC P = 0
 ·obtain ⟨lb, L, rfl, hL, hA⟩ := hyes hz
  obtain ⟨hlo, lv, mv, hX, hO, hM⟩ := hA
  have hr := (latC_zero hz).1
  have G := grp_of_r hr
  have h32 := (latC_zero hz).2
  have hall := cls_ok hz hL
  have hsub := clsF_sub hz hL
  have hmx := classes_ok P G h32 L hL w1 w0.heap.size lb _ lv mv Any hX (hp0.ext hg1) hO hg1.size
  rw [← hall.1] at hmx
  have hbg := fun h => tm_big (P := P) hz h
  have hok := fun h => tm_ok (P := P) hz h
  have hbd := (cls_bd P).1
  obtain ⟨c, hc⟩ : ∃ c, c = latC P := ⟨_, rfl⟩
  have hc0 : c = 0 := by rw [hc]; exact hz
  rw [← hc]
  obtain ⟨F, hF⟩ : ∃ F, F = clsF P := ⟨_, rfl⟩
  rw [← hF] at hmx hbg hok hsub hbd
  have HC := Lib.hid (And.intro hbg (And.intro hok (And.intro hsub hr))); clear hbg hok hsub hall hO hL hM hno hyes hz hX hr hc hF
  subst hc0
  go_wp2_with fail
  refine Calls.mono hmx ?_
  rintro e2 w2 ⟨v2, rfl, hg2, a, n, cc, za, zn, zc, rfl, hR, hZ⟩
  clear hmx hZ
  have hR3 := Rows3D.rows (hR.toD (by omega))
  clear hR
  obtain ⟨ra, rc, hre, _, _⟩ := Sl.shape hR3
  cases hre
  have hgw2 := grown_trans hgw1 hg2
  have hg02 := grown_trans hg1 hg2
  by_cases hbig : 24 < F.length
  ·have hb' : (24 : Int) < F.length := by omega
   have h3 := HC.out.1 hbig
   have H3 := Lib.hid h3; clear h3
   go_wp2
   refine bodyPost_ret (v := .tuple #[.slice none 0 0, .int .i64 3]) (by simp [results, Tryz.results56, go_sem]) rfl ?_
   exact ⟨_, rfl, hgw2, none, 0, 0, by rw [H3.out.1], by rw [H3.out.2]; exact SlO.nil _ _ _ _⟩
  ·have hb' : ¬ (24 : Int) < F.length := by omega
   have hok := HC.out.2.1 hbig
   have hN : F.length ≤ 24 := by omega
   have HK := Lib.hid hok; clear hok hbd hbig
   have HR := Lib.hid hR3; clear hR3
   obtain ⟨N, hNF⟩ : ∃ N, N = F.length := ⟨_, rfl⟩
   have hTl : (F.map (fun u => tmR P u F)).length = N := by rw [List.length_map, hNF]
   rw [← hNF] at hN hb'
   rw [← hNF]
   have HN := Lib.hid (And.intro hNF hTl); clear hNF hTl
   go_wp2
   go_loopw [8, 33] (fun ov iv wr => ∃ (i : Nat) (v4 : Value), v4 = ov ∧ iv = .int .i64 i ∧ i ≤ N ∧ Ext w2 wr ∧ RowsO w2.heap.size wr v4 ((F.map (fun u => tmR P u F)).take i)) (fun _ iv _ => N - (intOf iv).toNat)
   case atStart => exact ⟨0, _, rfl, rfl, by omega, Ext.refl _, SlO.nil _ _ _ _⟩
   case round =>
    obtain ⟨i, v4, rfl, rfl, hi, hg, hO⟩ := hrel
    by_cases hlt : i < N
    ·have hlt' : (i : Int) < N := by omega
     have hiF : i < F.length := by rw [← HN.out.1]; exact hlt
     obtain ⟨bx, ox, a2, cap2, hab, _, _, hcx, hrx⟩ := Rows3.at (Rows3.ext HR.out hg) i hiF
     subst hab
     have hU := HC.out.2.2.1 _ (gtMem hiF)
     have hst := tmL_step P F i hiF
     obtain ⟨U, hUe⟩ : ∃ U, U = gt F i := ⟨_, rfl⟩
     rw [← hUe] at hcx hrx hU hst
     have HU := Lib.hid (And.intro hU hst); clear hU hst hUe
     go_wp2
     clear hcx
     obtain ⟨wo, rfl⟩ : ∃ wo : World, wo = wr := ⟨_, rfl⟩
     have hgwo := grown_trans hg02 hg
     go_loopw [11, 39] (fun rv jv wr => ∃ (j : Nat) (v7 : Value), v7 = rv ∧ jv = .int .i64 j ∧ j ≤ N ∧ Ext wo wr ∧ Own wo.heap.size wr v7 ((tmR P U F).take j)) (fun _ jv _ => N - (intOf jv).toNat)
     case atStart => exact ⟨0, _, rfl, rfl, by omega, Ext.refl _, World.ownsRow_nil _ _ _ _⟩
     case round =>
      obtain ⟨j, v7, rfl, rfl, hj, hgj, hR⟩ := hrel
      have hgj0 := grown_trans hgwo hgj
      have hg2j := grown_trans hg hgj
      by_cases hltj : j < N
      ·have hltj' : (j : Int) < N := by omega
       have hjF : j < F.length := by rw [← HN.out.1]; exact hltj
       obtain ⟨by', oy, a3, cap3, hab, _, _, hcy, hry⟩ := Rows3.at (Rows3.ext HR.out hg2j) j hjF
       cases hab
       have hV := HC.out.2.2.1 _ (gtMem hjF)
       have hst := tmR_step P U F j hjF
       obtain ⟨V, hVe⟩ : ∃ V, V = gt F j := ⟨_, rfl⟩
       rw [← hVe] at hcy hry hV hst
       obtain ⟨m, hm⟩ : ∃ m : Int, m = ((fixN P U V : Nat) : Int) := ⟨_, rfl⟩
       have hlen : ((tmR P U F).take j).length ≤ 1000000 := by rw [List.length_take, tmR_len]; omega
       have hfx := iFix_ok P HC.out.2.2.2 wr (.agg #[vo6, vp6, vc6]) _ _ U V Any _ _ (HB.out.2 wr hgj0) (Rows2.ext hrx hgj) hry HU.out.1 hV (by omega)
       rw [← hm] at hfx hst
       have HV := Lib.hid (And.intro hst hlen); clear hst hlen hm hV hVe
       obtain ⟨b0_, b1_, b2_⟩ := HB.out.1 wr hgj0
       go_wp2_with fail
       clear b0_ b1_ b2_
       clear hcy
       refine Calls.mono hfx ?_
       rintro eA wA ⟨vA, rfl, hgA, rfl⟩
       clear hfx
       have hRA := hR.ext0 hgA
       have hgjA := grown_trans hgj hgA
       go_wp2_with (at_builtin; go_must (refine wp_app_int rfl _ _ rfl wo.heap.size _ ((tmR P U F).take j) m rfl wA hRA rfl rfl HV.out.2 hgjA.size ?_); intro v8 w8 hR8 hg8)
       have hgj8 : Ext wo w8 := grown_own hgjA hg8 (fun b hb hlt => by have := (hRA.lt b hb).1; omega)
       rw [← HV.out.1] at hR8
       clear hR hRA hg8
       go_roundw
       case rel => exact ⟨j + 1, v8, rfl, by go_num, by omega, hgj8, hR8⟩
       case measure => simp [intOf]; omega
      ·have hje : j = N := by omega
       subst hje
       have hRl : (tmR P U F).length = j := by rw [tmR_len, HN.out.1]
       have hR2 : Own wo.heap.size wr v7 (tmR P U F) := by rw [List.take_of_length_le (by omega)] at hR; exact hR
       have hrow : OwnIn (From wo.heap.size) wr v7 (tmR P U F) := OwnIn.of hR2 (by omega) (fun k hk _ => hk)
       obtain ⟨a7, c7, hv7, _, _⟩ := hrow.ints.shape
       subst hv7
       have hlen : ((F.map (fun u => tmR P u F)).take i).length ≤ 1000000 := by rw [List.length_take]; omega
       have HZ := Lib.hid hlen; clear hlen hRl hR
       go_wp2_with (at_builtin; go_must (refine wp_app_row rfl _ _ rfl w2.heap.size wo wr _ _ ((F.map (fun u => tmR P u F)).take i) (tmR P U F) rfl hO hgj hrow rfl rfl HZ.out hg.size ?_); intro v5 w5 hO5 hg5 _)
       have hgw5 : Ext w2 w5 := grown_own hg hg5 (fun b hb hlt => by have := (hO.lt b hb).1; omega)
       rw [← HU.out.2] at hO5
       clear hO hrow hg5 hR2
       go_roundw
       case rel => exact ⟨i + 1, v5, rfl, by go_num, by omega, hgw5, hO5⟩
       case measure => simp [intOf]; omega
    ·have hie : i = N := by omega
     subst hie
     have hfin : RowsO w2.heap.size wr v4 (tmL P) := by
      rw [List.take_of_length_le (by rw [HN.out.2]; exact Nat.le_refl _)] at hO
      rw [HK.out.2]; exact hO
     have hfw : RowsO w.heap.size wr v4 (tmL P) := hfin.weak hgw2.size
     have hln := tmL_len P
     obtain ⟨ta, tc, hte, _, _⟩ := Sl.shape (RowsD.rows (SlO.toD hfw (by omega)))
     obtain ⟨K, hK⟩ : ∃ K, K = (tmL P).length := ⟨_, rfl⟩
     rw [← hK] at hte
     subst hte
     have HE := Lib.hid hfw; clear hO hfin hfw hln hK
     go_wp2
     refine bodyPost_ret (v := .tuple #[.slice ta K tc, .int .i64 0]) (by simp [results, Tryz.results56, go_sem]) rfl ?_
     exact ⟨_, rfl, grown_trans hgw2 hg, _, _, _, by rw [HK.out.1], HE.out⟩
 ·have hlp := hno hz
  subst hlp
  have hall := tm_no hz
  obtain ⟨c, hc⟩ : ∃ c, c = latC P := ⟨_, rfl⟩
  rw [← hc] at hz hall ⊢
  have hne : (c != 0) = true := by simpa using hz
  have HC := Lib.hid hall; clear hc hall hno hyes
  go_wp2
  refine bodyPost_ret (v := .tuple #[.slice none 0 0, .int .i64 c]) (by simp [results, Tryz.results56, go_sem]) rfl ?_
  exact ⟨_, rfl, hgw1, none, 0, 0, by rw [HC.out.1], by rw [HC.out.2]; exact SlO.nil _ _ _ _⟩
end Go.Proofs.YtdklekdpdbjfiaaGreat
