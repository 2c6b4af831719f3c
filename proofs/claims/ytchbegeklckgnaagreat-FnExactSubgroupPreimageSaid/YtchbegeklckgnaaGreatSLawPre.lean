/-
  laws.FnExactSubgroupPreimage: whatever the arguments, the law answers true. (Printed by gen_law.py.)
-/
import Derived.Test.YtchbegeklckgnaaGreatK8
import Derived.Test.YtchbegeklckgnaaGreatSLHom2
import Derived.Test.YtchbegeklckgnaaGreatSSKer
import Derived.Test.YtchbegeklckgnaaGreatSKerLen
namespace Go.Proofs.YtchbegeklckgnaaGreat
open Go.RowKit

set_option maxRecDepth 100000 in
set_option maxHeartbeats 32000000 in
theorem lawPre_ok (P Q : Pr) (Is : List (List Int)) (U0 : List (List Int)) (w : World) (pv uv0 : Value) (S S0 : Nat → Prop) (hpv : HomV S w pv P Q Is) (hu0 : Rows2 S0 w uv0 U0) :
    Calls Tryz.prog 4 #[pv, uv0] w (Ret w fun _ v => v = .bool true) := by
  obtain ⟨vo, vp, vc, uo, up, uc, vi, rfl, j1, j2, j3⟩ := hpv
  obtain ⟨au0, cu0, rfl, _, hub0⟩ := Sl.shape hu0
  have hg0 : Ext w (w.alloc (.cells #[vo, vp, vc, uo, up, uc, vi] 28)) := World.grownBy_alloc _ _ _
  have hB := Box7.made w 28 vo vp vc uo up uc vi
  have HB := Lib.hid hB; clear hB
  go_enter Tryz.func4, Tryz.ntmps4
  go_wp2_with fail
  generalize w.alloc (.cells #[vo, vp, vc, uo, up, uc, vi] 28) = w0 at *
  have hbx := HB.out
  have s_b := Lib.hid hbx.1
  refine Calls.mono (szHom_ok _ P Q Is 1048576 _ S ⟨_, _, _, _, _, _, _, rfl, j1.ext hg0, j2.ext hg0, Rows2.ext j3 hg0⟩ (by omega)) ?_
  rintro eA wA ⟨vA, rfl, hgA, ⟨hA, rfl⟩ | ⟨hA, rfl⟩⟩
  case inr =>
    go_wp2
    go_ret
    exact ⟨_, rfl, grown_trans hg0 hgA, rfl⟩
  have hsz : sizeH P Q Is ≤ 1048576 := by omega
  obtain ⟨l0, hl0⟩ : ∃ l0 : Int, l0 = 1048576 - (sizeH P Q Is : Nat) := ⟨_, rfl⟩
  rw [← hl0]
  have hb0 : 0 ≤ l0 ∧ l0 ≤ 1048576 := by omega
  have Hl0 := Lib.hid hl0; clear hl0 hA
  have hn0 : ¬ l0 < 0 := by omega
  have a_1 := grown_trans hg0 hgA
  have b_1 := hbx.ext hgA
  clear hg0 hbx
  have s_1 := Lib.hid hgA.size
  go_wp2_with fail
  refine Calls.mono (szInt64SS_ok _ U0 l0 _ S0 (Rows2.ext hu0 a_1) hb0) ?_
  rintro eB0 wB0 ⟨vB0, rfl, hgB0, ⟨hA, rfl⟩ | ⟨hA, rfl⟩⟩
  case inr =>
    go_wp2
    go_ret
    exact ⟨_, rfl, grown_trans a_1 hgB0, rfl⟩
  have hsu0 : size2 U0 ≤ 1048576 := by omega
  obtain ⟨l1, hl1⟩ : ∃ l1 : Int, l1 = l0 - (size2 U0 : Nat) := ⟨_, rfl⟩
  rw [← hl1]
  have hb1 : 0 ≤ l1 ∧ l1 ≤ 1048576 := by omega
  have Hl1 := Lib.hid hl1; clear hl1 hA hn0
  have hn1 : ¬ l1 < 0 := by omega
  have a_2 := grown_trans a_1 hgB0
  have b_2 := b_1.ext hgB0
  clear a_1 b_1
  have s_2 := Lib.hid hgB0.size
  obtain ⟨_, b0, b1, b2, b3, b4, b5, b6, _⟩ := id b_2
  go_wp2_with fail
  clear b0 b1 b2 b3 b4 b5 b6
  refine Calls.mono (toHom_ok _ P Q Is wB0 S ⟨_, _, _, _, _, _, _, rfl, j1.ext a_2, j2.ext a_2, Rows2.ext j3 a_2⟩ hsz) ?_
  rintro eAP wAP ⟨vAP, rfl, hgAP, hpA⟩
  have hqA : HomW (fun k => wB0.heap.size ≤ k ∧ k < wAP.heap.size) wAP vAP P Q Is := hpA.mono (fun k hk hlt => ⟨⟨hk, hlt⟩, hlt, rfl⟩)
  obtain ⟨Aa1, Ac1, Aa2, Ac2, Aa3, Ac3, Aa4, Ac4, Aa5, Ac5, Aa6, Ac6, Aa7, Ac7, rfl⟩ := hpA.shape
  clear hpA
  have a_3 := grown_trans a_2 hgAP
  have b_3 := b_2.ext hgAP
  clear a_2 b_2
  have s_3 := Lib.hid hgAP.size
  go_wp2_with fail
  refine Calls.mono (toInt64SS_ok _ U0 wAP S0 (Rows2.ext hu0 a_3) hsu0) ?_
  rintro eA0 wA0 ⟨vA0, rfl, hgA0, hO⟩
  have hyA0 : RowsD (fun k => wAP.heap.size ≤ k ∧ k < wA0.heap.size) wA0 vA0 U0 := rdRows.mono (SlO.toD hO (by omega)) (fun k h1 h2 => ⟨⟨h1, h2⟩, h2, rfl⟩)
  clear hO
  obtain ⟨yAa0, yAc0, hvy, _, _⟩ := SlD.shape hyA0; subst hvy
  have a_4 := grown_trans a_3 hgA0
  have b_4 := b_3.ext hgA0
  have pA_4 := hqA.ext hgA0
  clear a_3 b_3 hqA
  have s_4 := Lib.hid hgA0.size
  go_wp2_with fail
  refine Calls.mono (sPre_ok P Q Is U0 wA0 _ _ _ _ (HomW.v pA_4) (RowsD.rows hyA0)) ?_
  rintro eR wR ⟨vR, rfl, hgR, rRa, rRn, rRc, rfl, hR⟩
  clear pA_4
  clear hyA0
  have a_5 := grown_trans a_4 hgR
  have b_5 := b_4.ext hgR
  clear a_4 b_4
  have s_5 := Lib.hid hgR.size
  have hr : Rows2 (fun k => k < wR.heap.size) wR (.slice rRa rRn rRc) (preL P Q Is U0) := Rows2.sub hR (fun k _ h => h)
  clear hR
  obtain ⟨_, b0, b1, b2, b3, b4, b5, b6, _⟩ := id b_5
  go_wp2_with fail
  clear b0 b1 b2 b3 b4 b5 b6
  refine Calls.mono (toHom_ok _ P Q Is wR S ⟨_, _, _, _, _, _, _, rfl, j1.ext a_5, j2.ext a_5, Rows2.ext j3 a_5⟩ hsz) ?_
  rintro eBP wBP ⟨vBP, rfl, hgBP, hpB⟩
  have hqB : HomW (fun k => wR.heap.size ≤ k ∧ k < wBP.heap.size) wBP vBP P Q Is := hpB.mono (fun k hk hlt => ⟨⟨hk, hlt⟩, hlt, rfl⟩)
  obtain ⟨Ba1, Bc1, Ba2, Bc2, Ba3, Bc3, Ba4, Bc4, Ba5, Bc5, Ba6, Bc6, Ba7, Bc7, rfl⟩ := hpB.shape
  clear hpB
  have a_6 := grown_trans a_5 hgBP
  have b_6 := b_5.ext hgBP
  have r_6 := Rows2.ext hr hgBP
  clear a_5 b_5 hr
  have s_6 := Lib.hid hgBP.size
  have hgBX : Ext wBP (wBP.alloc (.cells #[.slice Ba1 P.orders.length Bc1, .slice Ba2 P.powers.length Bc2, .slice Ba3 P.conj.length Bc3, .slice Ba4 Q.orders.length Bc4, .slice Ba5 Q.powers.length Bc5, .slice Ba6 Q.conj.length Bc6, .slice Ba7 Is.length Bc7] 34)) := World.grownBy_alloc _ _ _
  have hxB := Box7.made wBP 34 (.slice Ba1 P.orders.length Bc1) (.slice Ba2 P.powers.length Bc2) (.slice Ba3 P.conj.length Bc3) (.slice Ba4 Q.orders.length Bc4) (.slice Ba5 Q.powers.length Bc5) (.slice Ba6 Q.conj.length Bc6) (.slice Ba7 Is.length Bc7)
  have sxB : (wBP.alloc (.cells #[.slice Ba1 P.orders.length Bc1, .slice Ba2 P.powers.length Bc2, .slice Ba3 P.conj.length Bc3, .slice Ba4 Q.orders.length Bc4, .slice Ba5 Q.powers.length Bc5, .slice Ba6 Q.conj.length Bc6, .slice Ba7 Is.length Bc7] 34)).heap.size = wBP.heap.size + 1 := by simp
  have HxB := Lib.hid (And.intro hxB sxB); clear hxB sxB
  go_wp2_with fail
  generalize wBP.alloc (.cells #[.slice Ba1 P.orders.length Bc1, .slice Ba2 P.powers.length Bc2, .slice Ba3 P.conj.length Bc3, .slice Ba4 Q.orders.length Bc4, .slice Ba5 Q.powers.length Bc5, .slice Ba6 Q.conj.length Bc6, .slice Ba7 Is.length Bc7] 34) = wBX at *
  have hxxB := HxB.out.1
  have sxB := Lib.hid HxB.out.2
  have a_7 := grown_trans a_6 hgBX
  have b_7 := b_6.ext hgBX
  have r_7 := Rows2.ext r_6 hgBX
  have pB_7 := hqB.ext hgBX
  clear a_6 b_6 r_6 hqB
  have s_7 := Lib.hid hgBX.size
  refine Calls.mono (toInt64SS_ok _ U0 wBX S0 (Rows2.ext hu0 a_7) hsu0) ?_
  rintro eB0 wB0 ⟨vB0, rfl, hgB0, hO⟩
  have hyB0 : RowsD (fun k => wBX.heap.size ≤ k ∧ k < wB0.heap.size) wB0 vB0 U0 := rdRows.mono (SlO.toD hO (by omega)) (fun k h1 h2 => ⟨⟨h1, h2⟩, h2, rfl⟩)
  clear hO
  obtain ⟨yBa0, yBc0, hvy, _, _⟩ := SlD.shape hyB0; subst hvy
  have a_8 := grown_trans a_7 hgB0
  have b_8 := b_7.ext hgB0
  have r_8 := Rows2.ext r_7 hgB0
  have pB_8 := pB_7.ext hgB0
  have xB_8 := hxxB.ext hgB0
  clear a_7 b_7 r_7 pB_7 hxxB
  have s_8 := Lib.hid hgB0.size
  obtain ⟨_, b0, b1, b2, b3, b4, b5, b6, _⟩ := id xB_8
  go_wp2_with fail
  clear b0 b1 b2 b3 b4 b5 b6
  refine Calls.mono (iPre_ok P Q Is U0 wB0 _ _ _ _ (HomW.v pB_8) (RowsD.rows hyB0)) ?_
  rintro eG wG ⟨vG, rfl, hgG, rGa, rGn, rGc, rfl, hG⟩
  have a_9 := grown_trans a_8 hgG
  have b_9 := b_8.ext hgG
  have r_9 := Rows2.ext r_8 hgG
  have pB_9 := pB_8.ext hgG
  have xB_9 := xB_8.ext hgG
  have yB0_9 := rdRows.mono hyB0 (frame_ext hgG)
  clear a_8 b_8 r_8 pB_8 xB_8 hyB0
  have s_9 := Lib.hid hgG.size
  have hg_ : RowsD (fun k => wB0.heap.size ≤ k ∧ k < wG.heap.size) wG (.slice rGa rGn rGc) (preL P Q Is U0) := rdRows.mono (SlO.toD hG (by have := preL_len P Q Is U0; omega)) (fun k h1 h2 => ⟨⟨h1, h2⟩, h2, rfl⟩)
  clear hG
  have hEV : eqB (preL P Q Is U0) (preL P Q Is U0) = true := eqB_true.2 rfl
  go_wp2_with fail
  refine Calls.mono (eqInt64SS_ok _ _ _ _ wG _ _ (RowsD.rows hg_) r_9) ?_
  rintro eH wH ⟨vH, rfl, hgH, rfl⟩
  have a_10 := grown_trans a_9 hgH
  have b_10 := b_9.ext hgH
  have r_10 := Rows2.ext r_9 hgH
  have pB_10 := pB_9.ext hgH
  have xB_10 := xB_9.ext hgH
  have yB0_10 := rdRows.mono yB0_9 (frame_ext hgH)
  have g_10 := rdRows.mono hg_ (frame_ext hgH)
  clear a_9 b_9 r_9 pB_9 xB_9 yB0_9 hg_
  have s_10 := Lib.hid hgH.size
  go_wp2_with fail
  have ha0 : ∀ w', Ext wH w' → w'.cell? ⟨w.heap.size, 0, none⟩ = some vo := fun w' h => (b_10.ext h).2.1
  have ha1 : ∀ w', Ext wH w' → w'.cell? ⟨w.heap.size, 1, none⟩ = some vp := fun w' h => (b_10.ext h).2.2.1
  have ha2 : ∀ w', Ext wH w' → w'.cell? ⟨w.heap.size, 2, none⟩ = some vc := fun w' h => (b_10.ext h).2.2.2.1
  have ha3 : ∀ w', Ext wH w' → w'.cell? ⟨w.heap.size, 3, none⟩ = some uo := fun w' h => (b_10.ext h).2.2.2.2.1
  have ha4 : ∀ w', Ext wH w' → w'.cell? ⟨w.heap.size, 4, none⟩ = some up := fun w' h => (b_10.ext h).2.2.2.2.2.1
  have ha5 : ∀ w', Ext wH w' → w'.cell? ⟨w.heap.size, 5, none⟩ = some uc := fun w' h => (b_10.ext h).2.2.2.2.2.2.1
  have ha6 : ∀ w', Ext wH w' → w'.cell? ⟨w.heap.size, 6, none⟩ = some vi := fun w' h => (b_10.ext h).2.2.2.2.2.2.2.1
  have hx0 : ∀ w', Ext wH w' → w'.cell? ⟨wBP.heap.size, 0, none⟩ = some (.slice Ba1 P.orders.length Bc1) := fun w' h => (xB_10.ext h).2.1
  have hx1 : ∀ w', Ext wH w' → w'.cell? ⟨wBP.heap.size, 1, none⟩ = some (.slice Ba2 P.powers.length Bc2) := fun w' h => (xB_10.ext h).2.2.1
  have hx2 : ∀ w', Ext wH w' → w'.cell? ⟨wBP.heap.size, 2, none⟩ = some (.slice Ba3 P.conj.length Bc3) := fun w' h => (xB_10.ext h).2.2.2.1
  have hx3 : ∀ w', Ext wH w' → w'.cell? ⟨wBP.heap.size, 3, none⟩ = some (.slice Ba4 Q.orders.length Bc4) := fun w' h => (xB_10.ext h).2.2.2.2.1
  have hx4 : ∀ w', Ext wH w' → w'.cell? ⟨wBP.heap.size, 4, none⟩ = some (.slice Ba5 Q.powers.length Bc5) := fun w' h => (xB_10.ext h).2.2.2.2.2.1
  have hx5 : ∀ w', Ext wH w' → w'.cell? ⟨wBP.heap.size, 5, none⟩ = some (.slice Ba6 Q.conj.length Bc6) := fun w' h => (xB_10.ext h).2.2.2.2.2.2.1
  have hx6 : ∀ w', Ext wH w' → w'.cell? ⟨wBP.heap.size, 6, none⟩ = some (.slice Ba7 Is.length Bc7) := fun w' h => (xB_10.ext h).2.2.2.2.2.2.2.1
  go_region_held3 (fun w' => Ext wH w') (first | exact grown_drew _ _ | assumption)
    (first
      | (go_at_call 15; refine Calls.mono (Calls.rel (w0 := wH) (by assumption) (toHom_ok _ P Q Is _ S ⟨_, _, _, _, _, _, _, rfl, j1.ext (grown_trans a_10 (by assumption)), j2.ext (grown_trans a_10 (by assumption)), Rows2.ext j3 (grown_trans a_10 (by assumption))⟩ hsz)) ?_; rintro e8 w8 ⟨v8, rfl, hg8, hs8, hp8⟩; obtain ⟨ya0, yc0, ya1, yc1, ya2, yc2, ya3, yc3, ya4, yc4, ya5, yc5, ya6, yc6, rfl⟩ := hp8.shape)
      | (go_at_call 18; refine Calls.mono (Calls.rel (w0 := wH) (by assumption) (eqHom_ok _ _ P Q Is _ _ _ (HomW.v (HomW.ext pB_10 (by assumption))) (HomW.v hp8))) ?_; rintro e9 w9 ⟨v9, rfl, hg9, hs9, rfl⟩))
  clear ha0 ha1 ha2 ha3 ha4 ha5 ha6 hx0 hx1 hx2 hx3 hx4 hx5 hx6 hp8 hg8
  have a_11 := grown_trans a_10 hg9
  have b_11 := b_10.ext hg9
  have r_11 := Rows2.ext r_10 hg9
  have pB_11 := pB_10.ext hg9
  have xB_11 := xB_10.ext hg9
  have yB0_11 := rdRows.mono yB0_10 (frame_ext hg9)
  have g_11 := rdRows.mono g_10 (frame_ext hg9)
  clear a_10 b_10 r_10 pB_10 xB_10 yB0_10 g_10
  have s_11 := Lib.hid hg9.size
  go_wp2_with fail
  refine Calls.mono (toInt64SS_ok _ U0 w9 S0 (Rows2.ext hu0 a_11) hsu0) ?_
  rintro eC0 wC0 ⟨vC0, rfl, hgC0, hO⟩
  have hOD := SlO.toD hO (by omega)
  clear hO
  obtain ⟨za0, zc0, hvz, _, _⟩ := SlD.shape hOD; subst hvz
  have a_12 := grown_trans a_11 hgC0
  have b_12 := b_11.ext hgC0
  have r_12 := Rows2.ext r_11 hgC0
  have pB_12 := pB_11.ext hgC0
  have xB_12 := xB_11.ext hgC0
  have yB0_12 := rdRows.mono yB0_11 (frame_ext hgC0)
  have g_12 := rdRows.mono g_11 (frame_ext hgC0)
  clear a_11 b_11 r_11 pB_11 xB_11 yB0_11 g_11
  have s_12 := Lib.hid hgC0.size
  go_wp2_with fail
  refine Calls.mono (eqInt64SS_ok _ _ _ _ wC0 _ _ (RowsD.rows yB0_12) (RowsD.rows hOD)) ?_
  rintro eD0 wD0 ⟨vD0, rfl, hgD0, rfl⟩
  clear hOD
  have hEU0 : eqB U0 U0 = true := eqB_true.2 rfl
  have a_13 := grown_trans a_12 hgD0
  have b_13 := b_12.ext hgD0
  have r_13 := Rows2.ext r_12 hgD0
  have pB_13 := pB_12.ext hgD0
  have xB_13 := xB_12.ext hgD0
  have yB0_13 := rdRows.mono yB0_12 (frame_ext hgD0)
  have g_13 := rdRows.mono g_12 (frame_ext hgD0)
  clear a_12 b_12 r_12 pB_12 xB_12 yB0_12 g_12
  have s_13 := Lib.hid hgD0.size
  obtain ⟨_, c0, c1, c2, c3, c4, c5, c6, _⟩ := id xB_13
  go_wp2_with fail
  clear c0 c1 c2 c3 c4 c5 c6 hEU0
  refine Calls.mono (markHom_ok _ P Q Is wD0 _ pB_13 hsz) ?_
  rintro eM wM ⟨q0, hq0, rfl, hTM⟩
  clear pB_13 xB_13
  have sb_14 := Lib.hid b_13.1
  have a_14 := Touch.ext a_13 hTM (fun k hk => by have := s_b.out; have := s_1.out; have := s_2.out; have := s_3.out; have := s_4.out; have := s_5.out; have := s_6.out; have := sxB.out; have := s_7.out; have := s_8.out; have := s_9.out; have := s_10.out; have := s_11.out; have := s_12.out; have := s_13.out; have := sb_14.out; omega)
  have b_14 := b_13.keep hTM.size (hTM.block _ b_13.1 (fun h => by have := s_b.out; have := s_1.out; have := s_2.out; have := s_3.out; have := s_4.out; have := s_5.out; have := s_6.out; have := sxB.out; have := s_7.out; have := s_8.out; have := s_9.out; have := s_10.out; have := s_11.out; have := s_12.out; have := s_13.out; have := sb_14.out; omega))
  have r_14 := Rows2.mono r_13 (hTM.frame (fun k hk h => by have := s_b.out; have := s_1.out; have := s_2.out; have := s_3.out; have := s_4.out; have := s_5.out; have := s_6.out; have := sxB.out; have := s_7.out; have := s_8.out; have := s_9.out; have := s_10.out; have := s_11.out; have := s_12.out; have := s_13.out; have := sb_14.out; omega))
  have yB0_14 := rdRows.mono yB0_13 (hTM.frame (fun k hk h => by have := s_b.out; have := s_1.out; have := s_2.out; have := s_3.out; have := s_4.out; have := s_5.out; have := s_6.out; have := sxB.out; have := s_7.out; have := s_8.out; have := s_9.out; have := s_10.out; have := s_11.out; have := s_12.out; have := s_13.out; have := sb_14.out; omega))
  have g_14 := rdRows.mono g_13 (hTM.frame (fun k hk h => by have := s_b.out; have := s_1.out; have := s_2.out; have := s_3.out; have := s_4.out; have := s_5.out; have := s_6.out; have := sxB.out; have := s_7.out; have := s_8.out; have := s_9.out; have := s_10.out; have := s_11.out; have := s_12.out; have := s_13.out; have := sb_14.out; omega))
  clear a_13 b_13 r_13 yB0_13 g_13
  have s_14 := Lib.hid hTM.size
  have hqq0 : 0 ≤ q0 ∧ q0 ≤ 10000000 := by omega
  go_wp2_with fail
  refine Calls.mono (markInt64SS_ok _ U0 q0 wM _ yB0_14 ⟨by omega, by have := szTo_le U0; omega⟩) ?_
  rintro eN0 wN0 ⟨rfl, hTN0, _⟩
  clear yB0_14
  have sb_15 := Lib.hid b_14.1
  have a_15 := Touch.ext a_14 hTN0 (fun k hk => by have := s_b.out; have := s_1.out; have := s_2.out; have := s_3.out; have := s_4.out; have := s_5.out; have := s_6.out; have := sxB.out; have := s_7.out; have := s_8.out; have := s_9.out; have := s_10.out; have := s_11.out; have := s_12.out; have := s_13.out; have := sb_14.out; have := s_14.out; have := sb_15.out; omega)
  have b_15 := b_14.keep hTN0.size (hTN0.block _ b_14.1 (fun h => by have := s_b.out; have := s_1.out; have := s_2.out; have := s_3.out; have := s_4.out; have := s_5.out; have := s_6.out; have := sxB.out; have := s_7.out; have := s_8.out; have := s_9.out; have := s_10.out; have := s_11.out; have := s_12.out; have := s_13.out; have := sb_14.out; have := s_14.out; have := sb_15.out; omega))
  have r_15 := Rows2.mono r_14 (hTN0.frame (fun k hk h => by have := s_b.out; have := s_1.out; have := s_2.out; have := s_3.out; have := s_4.out; have := s_5.out; have := s_6.out; have := sxB.out; have := s_7.out; have := s_8.out; have := s_9.out; have := s_10.out; have := s_11.out; have := s_12.out; have := s_13.out; have := sb_14.out; have := s_14.out; have := sb_15.out; omega))
  have g_15 := rdRows.mono g_14 (hTN0.frame (fun k hk h => by have := s_b.out; have := s_1.out; have := s_2.out; have := s_3.out; have := s_4.out; have := s_5.out; have := s_6.out; have := sxB.out; have := s_7.out; have := s_8.out; have := s_9.out; have := s_10.out; have := s_11.out; have := s_12.out; have := s_13.out; have := sb_14.out; have := s_14.out; have := sb_15.out; omega))
  clear a_14 b_14 r_14 g_14
  have s_15 := Lib.hid hTN0.size
  obtain ⟨q1, hq1⟩ : ∃ q1 : Int, q1 = q0 + (tot2 U0 : Nat) := ⟨_, rfl⟩
  rw [← hq1]
  have hqb1 : 0 ≤ q1 ∧ q1 ≤ 11100000 := by have := szTo_le U0; omega
  clear hq1
  have hqn : ¬ q1 < 0 := by omega
  go_wp2_with fail
  refine Calls.mono (eqInt64SS_ok _ _ _ _ wN0 _ _ (RowsD.rows g_15) r_15) ?_
  rintro eI wI ⟨vI, rfl, hgI, rfl⟩
  have a_16 := grown_trans a_15 hgI
  have b_16 := b_15.ext hgI
  have r_16 := Rows2.ext r_15 hgI
  have g_16 := rdRows.mono g_15 (frame_ext hgI)
  clear a_15 b_15 r_15 g_15
  have s_16 := Lib.hid hgI.size
  have hbt : tot2 (preL P Q Is U0) ≤ 1000000 := preL_tot P Q Is U0
  have Hbt := Lib.hid hbt; clear hbt
  go_wp2_with fail
  refine Calls.mono (markInt64SS_ok _ (preL P Q Is U0) 1 wI _ g_16 ⟨by omega, by have := Hbt.out; omega⟩) ?_
  rintro eO wO ⟨rfl, hTO, hgO⟩
  clear g_16
  have sb_17 := Lib.hid b_16.1
  have a_17 := Touch.ext a_16 hTO (fun k hk => by have := s_b.out; have := s_1.out; have := s_2.out; have := s_3.out; have := s_4.out; have := s_5.out; have := s_6.out; have := sxB.out; have := s_7.out; have := s_8.out; have := s_9.out; have := s_10.out; have := s_11.out; have := s_12.out; have := s_13.out; have := sb_14.out; have := s_14.out; have := sb_15.out; have := s_15.out; have := s_16.out; have := sb_17.out; omega)
  have b_17 := b_16.keep hTO.size (hTO.block _ b_16.1 (fun h => by have := s_b.out; have := s_1.out; have := s_2.out; have := s_3.out; have := s_4.out; have := s_5.out; have := s_6.out; have := sxB.out; have := s_7.out; have := s_8.out; have := s_9.out; have := s_10.out; have := s_11.out; have := s_12.out; have := s_13.out; have := sb_14.out; have := s_14.out; have := sb_15.out; have := s_15.out; have := s_16.out; have := sb_17.out; omega))
  have r_17 := Rows2.mono r_16 (hTO.frame (fun k hk h => by have := s_b.out; have := s_1.out; have := s_2.out; have := s_3.out; have := s_4.out; have := s_5.out; have := s_6.out; have := sxB.out; have := s_7.out; have := s_8.out; have := s_9.out; have := s_10.out; have := s_11.out; have := s_12.out; have := s_13.out; have := sb_14.out; have := s_14.out; have := sb_15.out; have := s_15.out; have := s_16.out; have := sb_17.out; omega))
  clear a_16 b_16 r_16
  have s_17 := Lib.hid hTO.size
  obtain ⟨tt, htt⟩ : ∃ tt : Int, tt = (tot2 (preL P Q Is U0) : Nat) := ⟨_, rfl⟩
  have htb : 0 ≤ tt ∧ tt ≤ 1000000 := by have := Hbt.out; omega
  rw [← htt]
  have hk1 : ¬ (1 + tt < 0) := by omega
  go_wp2_with fail
  refine Calls.mono (heldInt64SS_ok _ (preL P Q Is U0) 1 wO _ (RowsD.rows hgO) ⟨by omega, by have := Hbt.out; omega⟩) ?_
  rintro eQ wQ ⟨vQ, rfl, hgQ, rfl⟩
  rw [← htt]
  have a_18 := grown_trans a_17 hgQ
  have b_18 := b_17.ext hgQ
  have r_18 := Rows2.ext r_17 hgQ
  have g_18 := rdRows.mono hgO (frame_ext hgQ)
  clear a_17 b_17 r_17 hgO
  have s_18 := Lib.hid hgQ.size
  obtain ⟨_, b0, b1, b2, b3, b4, b5, b6, _⟩ := id b_18
  go_wp2_with fail
  clear b0 b1 b2 b3 b4 b5 b6
  refine Calls.mono (toHom_ok _ P Q Is wQ S ⟨_, _, _, _, _, _, _, rfl, j1.ext a_18, j2.ext a_18, Rows2.ext j3 a_18⟩ hsz) ?_
  rintro eEP wEP ⟨vEP, rfl, hgEP, hpE⟩
  have hqE : HomW (fun k => wQ.heap.size ≤ k ∧ k < wEP.heap.size) wEP vEP P Q Is := hpE.mono (fun k hk hlt => ⟨⟨hk, hlt⟩, hlt, rfl⟩)
  obtain ⟨Ea1, Ec1, Ea2, Ec2, Ea3, Ec3, Ea4, Ec4, Ea5, Ec5, Ea6, Ec6, Ea7, Ec7, rfl⟩ := hpE.shape
  clear hpE
  have a_19 := grown_trans a_18 hgEP
  have b_19 := b_18.ext hgEP
  have r_19 := Rows2.ext r_18 hgEP
  have g_19 := rdRows.mono g_18 (frame_ext hgEP)
  clear a_18 b_18 r_18 g_18
  have s_19 := Lib.hid hgEP.size
  go_wp2_with fail
  refine Calls.mono (toInt64SS_ok _ U0 wEP S0 (Rows2.ext hu0 a_19) hsu0) ?_
  rintro eE0 wE0 ⟨vE0, rfl, hgE0, hO⟩
  have hyE0 : RowsD (fun k => wEP.heap.size ≤ k ∧ k < wE0.heap.size) wE0 vE0 U0 := rdRows.mono (SlO.toD hO (by omega)) (fun k h1 h2 => ⟨⟨h1, h2⟩, h2, rfl⟩)
  clear hO
  obtain ⟨yEa0, yEc0, hvy, _, _⟩ := SlD.shape hyE0; subst hvy
  have a_20 := grown_trans a_19 hgE0
  have b_20 := b_19.ext hgE0
  have r_20 := Rows2.ext r_19 hgE0
  have g_20 := rdRows.mono g_19 (frame_ext hgE0)
  have pE_20 := hqE.ext hgE0
  clear a_19 b_19 r_19 g_19 hqE
  have s_20 := Lib.hid hgE0.size
  go_wp2_with fail
  refine Calls.mono (iPre_ok P Q Is U0 wE0 _ _ _ _ (HomW.v pE_20) (RowsD.rows hyE0)) ?_
  rintro eK wK ⟨vK, rfl, hgK, rKa, rKn, rKc, rfl, hK⟩
  clear pE_20
  clear hyE0
  have a_21 := grown_trans a_20 hgK
  have b_21 := b_20.ext hgK
  have r_21 := Rows2.ext r_20 hgK
  have g_21 := rdRows.mono g_20 (frame_ext hgK)
  clear a_20 b_20 r_20 g_20
  have s_21 := Lib.hid hgK.size
  have hKD := RowsD.rows (SlO.toD hK (by have := preL_len P Q Is U0; omega))
  clear hK
  go_wp2_with fail
  refine Calls.mono (eqInt64SS_ok _ _ _ _ wK _ _ hKD r_21) ?_
  rintro eS wS ⟨vS, rfl, hgS, rfl⟩
  clear hKD
  have a_22 := grown_trans a_21 hgS
  have b_22 := b_21.ext hgS
  have r_22 := Rows2.ext r_21 hgS
  have g_22 := rdRows.mono g_21 (frame_ext hgS)
  clear a_21 b_21 r_21 g_21
  have s_22 := Lib.hid hgS.size
  go_wp2_with fail
  refine Calls.mono (heldInt64SS_ok _ (preL P Q Is U0) 1 wS _ (RowsD.rows g_22) ⟨by omega, by have := Hbt.out; omega⟩) ?_
  rintro eT wT ⟨vT, rfl, hgT, rfl⟩
  rw [← htt]
  have a_23 := grown_trans a_22 hgT
  have b_23 := b_22.ext hgT
  have r_23 := Rows2.ext r_22 hgT
  have g_23 := rdRows.mono g_22 (frame_ext hgT)
  clear a_22 b_22 r_22 g_22
  have s_23 := Lib.hid hgT.size
  go_wp2
  go_ret
  exact ⟨_, rfl, a_23, rfl⟩

end Go.Proofs.YtchbegeklckgnaaGreat
