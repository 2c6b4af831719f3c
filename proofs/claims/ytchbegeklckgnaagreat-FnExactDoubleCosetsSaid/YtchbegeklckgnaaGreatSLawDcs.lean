/-
  laws.FnExactDoubleCosets: whatever the arguments, the law answers true. (Printed by gen_law.py.)
-/
import Derived.Test.YtchbegeklckgnaaGreatK8
import Derived.Test.YtchbegeklckgnaaGreatSIDcs
namespace Go.Proofs.YtchbegeklckgnaaGreat
open Go.RowKit

set_option maxRecDepth 100000 in
set_option maxHeartbeats 32000000 in
theorem lawDcs_ok (P : Pr) (U0 : List (List Int)) (U1 : List (List Int)) (w : World) (pv uv0 uv1 : Value) (S S0 S1 : Nat → Prop) (hpv : PresV S w pv P) (hu0 : Rows2 S0 w uv0 U0) (hu1 : Rows2 S1 w uv1 U1) :
    Calls Tryz.prog 10 #[pv, uv0, uv1] w (Ret w fun _ v => v = .bool true) := by
  obtain ⟨vo, vp, vc, rfl, h3⟩ := hpv
  obtain ⟨au0, cu0, rfl, _, hub0⟩ := Sl.shape hu0
  obtain ⟨au1, cu1, rfl, _, hub1⟩ := Sl.shape hu1
  have hg0 : Ext w (w.alloc (.cells #[vo, vp, vc] 26)) := World.grownBy_alloc _ _ _
  have hB := Box3.made w 26 vo vp vc
  have HB := Lib.hid hB; clear hB
  go_enter Tryz.func10, Tryz.ntmps10
  go_wp2_with fail
  generalize w.alloc (.cells #[vo, vp, vc] 26) = w0 at *
  have hbx := HB.out
  have s_b := Lib.hid hbx.1
  refine Calls.mono (szPresentation_ok _ P 1048576 _ S ⟨_, _, _, rfl, h3.ext hg0⟩ (by omega)) ?_
  rintro eA wA ⟨vA, rfl, hgA, ⟨hA, rfl⟩ | ⟨hA, rfl⟩⟩
  case inr =>
    go_wp2
    go_ret
    exact ⟨_, rfl, grown_trans hg0 hgA, rfl⟩
  have hsz : sizeP P ≤ 1048576 := by omega
  obtain ⟨l0, hl0⟩ : ∃ l0 : Int, l0 = 1048576 - (sizeP P : Nat) := ⟨_, rfl⟩
  rw [← hl0]
  have hb0 : 0 ≤ l0 ∧ l0 ≤ 1048576 := by omega
  have Hl0 := Lib.hid hl0; clear hl0 hA
  have hn0 : ¬ l0 < 0 := by omega
  have a_1 := grown_trans hg0 hgA
  have b_1 := hbx.ext hgA
  clear hg0 hbx
  have s_1 := Lib.hid hgA.size
  go_wp2_with fail
  refine Calls.mono (szInt64SS_ok _ U0 l0 _ S0 (Rows2.ext hu0 a_1) hb0) ?_
  rintro eB0 wB0 ⟨vB0, rfl, hgB0, ⟨hA, rfl⟩ | ⟨hA, rfl⟩⟩
  case inr =>
    go_wp2
    go_ret
    exact ⟨_, rfl, grown_trans a_1 hgB0, rfl⟩
  have hsu0 : size2 U0 ≤ 1048576 := by omega
  obtain ⟨l1, hl1⟩ : ∃ l1 : Int, l1 = l0 - (size2 U0 : Nat) := ⟨_, rfl⟩
  rw [← hl1]
  have hb1 : 0 ≤ l1 ∧ l1 ≤ 1048576 := by omega
  have Hl1 := Lib.hid hl1; clear hl1 hA hn0
  have hn1 : ¬ l1 < 0 := by omega
  have a_2 := grown_trans a_1 hgB0
  have b_2 := b_1.ext hgB0
  clear a_1 b_1
  have s_2 := Lib.hid hgB0.size
  go_wp2_with fail
  refine Calls.mono (szInt64SS_ok _ U1 l1 _ S1 (Rows2.ext hu1 a_2) hb1) ?_
  rintro eB1 wB1 ⟨vB1, rfl, hgB1, ⟨hA, rfl⟩ | ⟨hA, rfl⟩⟩
  case inr =>
    go_wp2
    go_ret
    exact ⟨_, rfl, grown_trans a_2 hgB1, rfl⟩
  have hsu1 : size2 U1 ≤ 1048576 := by omega
  obtain ⟨l2, hl2⟩ : ∃ l2 : Int, l2 = l1 - (size2 U1 : Nat) := ⟨_, rfl⟩
  rw [← hl2]
  have hb2 : 0 ≤ l2 ∧ l2 ≤ 1048576 := by omega
  have Hl2 := Lib.hid hl2; clear hl2 hA hn1
  have hn2 : ¬ l2 < 0 := by omega
  have a_3 := grown_trans a_2 hgB1
  have b_3 := b_2.ext hgB1
  clear a_2 b_2
  have s_3 := Lib.hid hgB1.size
  obtain ⟨_, b0, b1, b2, _⟩ := id b_3
  go_wp2_with fail
  clear b0 b1 b2
  refine Calls.mono (toPresentation_ok _ P wB1 S ⟨_, _, _, rfl, h3.ext a_3⟩ hsz) ?_
  rintro eAP wAP ⟨vAP, rfl, hgAP, hpA⟩
  have hqA : PresW (fun k => wB1.heap.size ≤ k ∧ k < wAP.heap.size) wAP vAP P := hpA.mono (fun k hk hlt => ⟨⟨hk, hlt⟩, hlt, rfl⟩)
  obtain ⟨Aa1, Ac1, Aa2, Ac2, Aa3, Ac3, rfl⟩ := hpA.shape
  clear hpA
  have a_4 := grown_trans a_3 hgAP
  have b_4 := b_3.ext hgAP
  clear a_3 b_3
  have s_4 := Lib.hid hgAP.size
  go_wp2_with fail
  refine Calls.mono (toInt64SS_ok _ U0 wAP S0 (Rows2.ext hu0 a_4) hsu0) ?_
  rintro eA0 wA0 ⟨vA0, rfl, hgA0, hO⟩
  have hyA0 : RowsD (fun k => wAP.heap.size ≤ k ∧ k < wA0.heap.size) wA0 vA0 U0 := rdRows.mono (SlO.toD hO (by omega)) (fun k h1 h2 => ⟨⟨h1, h2⟩, h2, rfl⟩)
  clear hO
  obtain ⟨yAa0, yAc0, hvy, _, _⟩ := SlD.shape hyA0; subst hvy
  have a_5 := grown_trans a_4 hgA0
  have b_5 := b_4.ext hgA0
  have pA_5 := hqA.ext hgA0
  clear a_4 b_4 hqA
  have s_5 := Lib.hid hgA0.size
  go_wp2_with fail
  refine Calls.mono (toInt64SS_ok _ U1 wA0 S1 (Rows2.ext hu1 a_5) hsu1) ?_
  rintro eA1 wA1 ⟨vA1, rfl, hgA1, hO⟩
  have hyA1 : RowsD (fun k => wA0.heap.size ≤ k ∧ k < wA1.heap.size) wA1 vA1 U1 := rdRows.mono (SlO.toD hO (by omega)) (fun k h1 h2 => ⟨⟨h1, h2⟩, h2, rfl⟩)
  clear hO
  obtain ⟨yAa1, yAc1, hvy, _, _⟩ := SlD.shape hyA1; subst hvy
  have a_6 := grown_trans a_5 hgA1
  have b_6 := b_5.ext hgA1
  have pA_6 := pA_5.ext hgA1
  have yA0_6 := rdRows.mono hyA0 (frame_ext hgA1)
  clear a_5 b_5 pA_5 hyA0
  have s_6 := Lib.hid hgA1.size
  go_wp2_with fail
  refine Calls.mono (sDcs_ok P wA1 _ _ _ U0 U1 _ _ _ (PresW.v pA_6) (RowsD.rows yA0_6) (RowsD.rows hyA1)) ?_
  rintro eR wR ⟨vR, rfl, hgR, rRa, rRn, rRc, rfl, hR⟩
  clear pA_6
  clear yA0_6
  clear hyA1
  have a_7 := grown_trans a_6 hgR
  have b_7 := b_6.ext hgR
  clear a_6 b_6
  have s_7 := Lib.hid hgR.size
  have hr : Rows2 (fun k => k < wR.heap.size) wR (.slice rRa rRn rRc) (dcsL P U0 U1) := Rows2.sub hR (fun k _ h => h)
  clear hR
  obtain ⟨_, b0, b1, b2, _⟩ := id b_7
  go_wp2_with fail
  clear b0 b1 b2
  refine Calls.mono (toPresentation_ok _ P wR S ⟨_, _, _, rfl, h3.ext a_7⟩ hsz) ?_
  rintro eBP wBP ⟨vBP, rfl, hgBP, hpB⟩
  have hqB : PresW (fun k => wR.heap.size ≤ k ∧ k < wBP.heap.size) wBP vBP P := hpB.mono (fun k hk hlt => ⟨⟨hk, hlt⟩, hlt, rfl⟩)
  obtain ⟨Ba1, Bc1, Ba2, Bc2, Ba3, Bc3, rfl⟩ := hpB.shape
  clear hpB
  have a_8 := grown_trans a_7 hgBP
  have b_8 := b_7.ext hgBP
  have r_8 := Rows2.ext hr hgBP
  clear a_7 b_7 hr
  have s_8 := Lib.hid hgBP.size
  have hgBX : Ext wBP (wBP.alloc (.cells #[.slice Ba1 P.orders.length Bc1, .slice Ba2 P.powers.length Bc2, .slice Ba3 P.conj.length Bc3] 32)) := World.grownBy_alloc _ _ _
  have hxB := Box3.made wBP 32 (.slice Ba1 P.orders.length Bc1) (.slice Ba2 P.powers.length Bc2) (.slice Ba3 P.conj.length Bc3)
  have sxB : (wBP.alloc (.cells #[.slice Ba1 P.orders.length Bc1, .slice Ba2 P.powers.length Bc2, .slice Ba3 P.conj.length Bc3] 32)).heap.size = wBP.heap.size + 1 := by simp
  have HxB := Lib.hid (And.intro hxB sxB); clear hxB sxB
  go_wp2_with fail
  generalize wBP.alloc (.cells #[.slice Ba1 P.orders.length Bc1, .slice Ba2 P.powers.length Bc2, .slice Ba3 P.conj.length Bc3] 32) = wBX at *
  have hxxB := HxB.out.1
  have sxB := Lib.hid HxB.out.2
  have a_9 := grown_trans a_8 hgBX
  have b_9 := b_8.ext hgBX
  have r_9 := Rows2.ext r_8 hgBX
  have pB_9 := hqB.ext hgBX
  clear a_8 b_8 r_8 hqB
  have s_9 := Lib.hid hgBX.size
  refine Calls.mono (toInt64SS_ok _ U0 wBX S0 (Rows2.ext hu0 a_9) hsu0) ?_
  rintro eB0 wB0 ⟨vB0, rfl, hgB0, hO⟩
  have hyB0 : RowsD (fun k => wBX.heap.size ≤ k ∧ k < wB0.heap.size) wB0 vB0 U0 := rdRows.mono (SlO.toD hO (by omega)) (fun k h1 h2 => ⟨⟨h1, h2⟩, h2, rfl⟩)
  clear hO
  obtain ⟨yBa0, yBc0, hvy, _, _⟩ := SlD.shape hyB0; subst hvy
  have a_10 := grown_trans a_9 hgB0
  have b_10 := b_9.ext hgB0
  have r_10 := Rows2.ext r_9 hgB0
  have pB_10 := pB_9.ext hgB0
  have xB_10 := hxxB.ext hgB0
  clear a_9 b_9 r_9 pB_9 hxxB
  have s_10 := Lib.hid hgB0.size
  go_wp2_with fail
  refine Calls.mono (toInt64SS_ok _ U1 wB0 S1 (Rows2.ext hu1 a_10) hsu1) ?_
  rintro eB1 wB1 ⟨vB1, rfl, hgB1, hO⟩
  have hyB1 : RowsD (fun k => wB0.heap.size ≤ k ∧ k < wB1.heap.size) wB1 vB1 U1 := rdRows.mono (SlO.toD hO (by omega)) (fun k h1 h2 => ⟨⟨h1, h2⟩, h2, rfl⟩)
  clear hO
  obtain ⟨yBa1, yBc1, hvy, _, _⟩ := SlD.shape hyB1; subst hvy
  have a_11 := grown_trans a_10 hgB1
  have b_11 := b_10.ext hgB1
  have r_11 := Rows2.ext r_10 hgB1
  have pB_11 := pB_10.ext hgB1
  have xB_11 := xB_10.ext hgB1
  have yB0_11 := rdRows.mono hyB0 (frame_ext hgB1)
  clear a_10 b_10 r_10 pB_10 xB_10 hyB0
  have s_11 := Lib.hid hgB1.size
  obtain ⟨_, b0, b1, b2, _⟩ := id xB_11
  go_wp2_with fail
  clear b0 b1 b2
  refine Calls.mono (iDcs_ok P wB1 _ _ _ U0 U1 _ _ _ (PresW.v pB_11) (RowsD.rows yB0_11) (RowsD.rows hyB1)) ?_
  rintro eG wG ⟨vG, rfl, hgG, rGa, rGn, rGc, rfl, hG⟩
  have a_12 := grown_trans a_11 hgG
  have b_12 := b_11.ext hgG
  have r_12 := Rows2.ext r_11 hgG
  have pB_12 := pB_11.ext hgG
  have xB_12 := xB_11.ext hgG
  have yB0_12 := rdRows.mono yB0_11 (frame_ext hgG)
  have yB1_12 := rdRows.mono hyB1 (frame_ext hgG)
  clear a_11 b_11 r_11 pB_11 xB_11 yB0_11 hyB1
  have s_12 := Lib.hid hgG.size
  have hg_ : RowsD (fun k => wB1.heap.size ≤ k ∧ k < wG.heap.size) wG (.slice rGa rGn rGc) (dcsL P U0 U1) := rdRows.mono (SlO.toD hG (by have := dcsL_len P U0 U1; omega)) (fun k h1 h2 => ⟨⟨h1, h2⟩, h2, rfl⟩)
  clear hG
  have hEV : eqB (dcsL P U0 U1) (dcsL P U0 U1) = true := eqB_true.2 rfl
  go_wp2_with fail
  refine Calls.mono (eqInt64SS_ok _ _ _ _ wG _ _ (RowsD.rows hg_) r_12) ?_
  rintro eH wH ⟨vH, rfl, hgH, rfl⟩
  have a_13 := grown_trans a_12 hgH
  have b_13 := b_12.ext hgH
  have r_13 := Rows2.ext r_12 hgH
  have pB_13 := pB_12.ext hgH
  have xB_13 := xB_12.ext hgH
  have yB0_13 := rdRows.mono yB0_12 (frame_ext hgH)
  have yB1_13 := rdRows.mono yB1_12 (frame_ext hgH)
  have g_13 := rdRows.mono hg_ (frame_ext hgH)
  clear a_12 b_12 r_12 pB_12 xB_12 yB0_12 yB1_12 hg_
  have s_13 := Lib.hid hgH.size
  go_wp2_with fail
  have ha0 : ∀ w', Ext wH w' → w'.cell? ⟨w.heap.size, 0, none⟩ = some vo := fun w' h => (b_13.ext h).2.1
  have ha1 : ∀ w', Ext wH w' → w'.cell? ⟨w.heap.size, 1, none⟩ = some vp := fun w' h => (b_13.ext h).2.2.1
  have ha2 : ∀ w', Ext wH w' → w'.cell? ⟨w.heap.size, 2, none⟩ = some vc := fun w' h => (b_13.ext h).2.2.2.1
  have hx0 : ∀ w', Ext wH w' → w'.cell? ⟨wBP.heap.size, 0, none⟩ = some (.slice Ba1 P.orders.length Bc1) := fun w' h => (xB_13.ext h).2.1
  have hx1 : ∀ w', Ext wH w' → w'.cell? ⟨wBP.heap.size, 1, none⟩ = some (.slice Ba2 P.powers.length Bc2) := fun w' h => (xB_13.ext h).2.2.1
  have hx2 : ∀ w', Ext wH w' → w'.cell? ⟨wBP.heap.size, 2, none⟩ = some (.slice Ba3 P.conj.length Bc3) := fun w' h => (xB_13.ext h).2.2.2.1
  go_region_held3 (fun w' => Ext wH w') (first | exact grown_drew _ _ | assumption)
    (first
      | (go_at_call 28; refine Calls.mono (Calls.rel (w0 := wH) (by assumption) (toPresentation_ok _ P _ S ⟨_, _, _, rfl, Pres3.ext h3 (grown_trans a_13 (by assumption))⟩ hsz)) ?_; rintro e8 w8 ⟨v8, rfl, hg8, hs8, hp8⟩; obtain ⟨ya, yc, yb, yd, ye, yf, rfl⟩ := hp8.shape)
      | (go_at_call 30; refine Calls.mono (Calls.rel (w0 := wH) (by assumption) (eqPresentation_ok _ _ P _ _ _ (PresW.v (PresW.ext pB_13 (by assumption))) (PresW.v hp8))) ?_; rintro e9 w9 ⟨v9, rfl, hg9, hs9, rfl⟩))
  clear ha0 ha1 ha2 hx0 hx1 hx2 hp8 hg8
  have a_14 := grown_trans a_13 hg9
  have b_14 := b_13.ext hg9
  have r_14 := Rows2.ext r_13 hg9
  have pB_14 := pB_13.ext hg9
  have xB_14 := xB_13.ext hg9
  have yB0_14 := rdRows.mono yB0_13 (frame_ext hg9)
  have yB1_14 := rdRows.mono yB1_13 (frame_ext hg9)
  have g_14 := rdRows.mono g_13 (frame_ext hg9)
  clear a_13 b_13 r_13 pB_13 xB_13 yB0_13 yB1_13 g_13
  have s_14 := Lib.hid hg9.size
  go_wp2_with fail
  refine Calls.mono (toInt64SS_ok _ U0 w9 S0 (Rows2.ext hu0 a_14) hsu0) ?_
  rintro eC0 wC0 ⟨vC0, rfl, hgC0, hO⟩
  have hOD := SlO.toD hO (by omega)
  clear hO
  obtain ⟨za0, zc0, hvz, _, _⟩ := SlD.shape hOD; subst hvz
  have a_15 := grown_trans a_14 hgC0
  have b_15 := b_14.ext hgC0
  have r_15 := Rows2.ext r_14 hgC0
  have pB_15 := pB_14.ext hgC0
  have xB_15 := xB_14.ext hgC0
  have yB0_15 := rdRows.mono yB0_14 (frame_ext hgC0)
  have yB1_15 := rdRows.mono yB1_14 (frame_ext hgC0)
  have g_15 := rdRows.mono g_14 (frame_ext hgC0)
  clear a_14 b_14 r_14 pB_14 xB_14 yB0_14 yB1_14 g_14
  have s_15 := Lib.hid hgC0.size
  go_wp2_with fail
  refine Calls.mono (eqInt64SS_ok _ _ _ _ wC0 _ _ (RowsD.rows yB0_15) (RowsD.rows hOD)) ?_
  rintro eD0 wD0 ⟨vD0, rfl, hgD0, rfl⟩
  clear hOD
  have hEU0 : eqB U0 U0 = true := eqB_true.2 rfl
  have a_16 := grown_trans a_15 hgD0
  have b_16 := b_15.ext hgD0
  have r_16 := Rows2.ext r_15 hgD0
  have pB_16 := pB_15.ext hgD0
  have xB_16 := xB_15.ext hgD0
  have yB0_16 := rdRows.mono yB0_15 (frame_ext hgD0)
  have yB1_16 := rdRows.mono yB1_15 (frame_ext hgD0)
  have g_16 := rdRows.mono g_15 (frame_ext hgD0)
  clear a_15 b_15 r_15 pB_15 xB_15 yB0_15 yB1_15 g_15
  have s_16 := Lib.hid hgD0.size
  go_wp2_with fail
  refine Calls.mono (toInt64SS_ok _ U1 wD0 S1 (Rows2.ext hu1 a_16) hsu1) ?_
  rintro eC1 wC1 ⟨vC1, rfl, hgC1, hO⟩
  have hOD := SlO.toD hO (by omega)
  clear hO
  obtain ⟨za1, zc1, hvz, _, _⟩ := SlD.shape hOD; subst hvz
  have a_17 := grown_trans a_16 hgC1
  have b_17 := b_16.ext hgC1
  have r_17 := Rows2.ext r_16 hgC1
  have pB_17 := pB_16.ext hgC1
  have xB_17 := xB_16.ext hgC1
  have yB0_17 := rdRows.mono yB0_16 (frame_ext hgC1)
  have yB1_17 := rdRows.mono yB1_16 (frame_ext hgC1)
  have g_17 := rdRows.mono g_16 (frame_ext hgC1)
  clear a_16 b_16 r_16 pB_16 xB_16 yB0_16 yB1_16 g_16
  have s_17 := Lib.hid hgC1.size
  go_wp2_with fail
  refine Calls.mono (eqInt64SS_ok _ _ _ _ wC1 _ _ (RowsD.rows yB1_17) (RowsD.rows hOD)) ?_
  rintro eD1 wD1 ⟨vD1, rfl, hgD1, rfl⟩
  clear hOD
  have hEU1 : eqB U1 U1 = true := eqB_true.2 rfl
  have a_18 := grown_trans a_17 hgD1
  have b_18 := b_17.ext hgD1
  have r_18 := Rows2.ext r_17 hgD1
  have pB_18 := pB_17.ext hgD1
  have xB_18 := xB_17.ext hgD1
  have yB0_18 := rdRows.mono yB0_17 (frame_ext hgD1)
  have yB1_18 := rdRows.mono yB1_17 (frame_ext hgD1)
  have g_18 := rdRows.mono g_17 (frame_ext hgD1)
  clear a_17 b_17 r_17 pB_17 xB_17 yB0_17 yB1_17 g_17
  have s_18 := Lib.hid hgD1.size
  obtain ⟨_, c0, c1, c2, _⟩ := id xB_18
  go_wp2_with fail
  clear c0 c1 c2 hEU0 hEU1
  refine Calls.mono (markPresentationB_ok _ P wD1 _ pB_18 hsz) ?_
  rintro eM wM ⟨q0, hq0, rfl, hTM⟩
  clear pB_18 xB_18
  have sb_19 := Lib.hid b_18.1
  have a_19 := Touch.ext a_18 hTM (fun k hk => by have := s_b.out; have := s_1.out; have := s_2.out; have := s_3.out; have := s_4.out; have := s_5.out; have := s_6.out; have := s_7.out; have := s_8.out; have := sxB.out; have := s_9.out; have := s_10.out; have := s_11.out; have := s_12.out; have := s_13.out; have := s_14.out; have := s_15.out; have := s_16.out; have := s_17.out; have := s_18.out; have := sb_19.out; omega)
  have b_19 := b_18.keep hTM.size (hTM.block _ b_18.1 (fun h => by have := s_b.out; have := s_1.out; have := s_2.out; have := s_3.out; have := s_4.out; have := s_5.out; have := s_6.out; have := s_7.out; have := s_8.out; have := sxB.out; have := s_9.out; have := s_10.out; have := s_11.out; have := s_12.out; have := s_13.out; have := s_14.out; have := s_15.out; have := s_16.out; have := s_17.out; have := s_18.out; have := sb_19.out; omega))
  have r_19 := Rows2.mono r_18 (hTM.frame (fun k hk h => by have := s_b.out; have := s_1.out; have := s_2.out; have := s_3.out; have := s_4.out; have := s_5.out; have := s_6.out; have := s_7.out; have := s_8.out; have := sxB.out; have := s_9.out; have := s_10.out; have := s_11.out; have := s_12.out; have := s_13.out; have := s_14.out; have := s_15.out; have := s_16.out; have := s_17.out; have := s_18.out; have := sb_19.out; omega))
  have yB0_19 := rdRows.mono yB0_18 (hTM.frame (fun k hk h => by have := s_b.out; have := s_1.out; have := s_2.out; have := s_3.out; have := s_4.out; have := s_5.out; have := s_6.out; have := s_7.out; have := s_8.out; have := sxB.out; have := s_9.out; have := s_10.out; have := s_11.out; have := s_12.out; have := s_13.out; have := s_14.out; have := s_15.out; have := s_16.out; have := s_17.out; have := s_18.out; have := sb_19.out; omega))
  have yB1_19 := rdRows.mono yB1_18 (hTM.frame (fun k hk h => by have := s_b.out; have := s_1.out; have := s_2.out; have := s_3.out; have := s_4.out; have := s_5.out; have := s_6.out; have := s_7.out; have := s_8.out; have := sxB.out; have := s_9.out; have := s_10.out; have := s_11.out; have := s_12.out; have := s_13.out; have := s_14.out; have := s_15.out; have := s_16.out; have := s_17.out; have := s_18.out; have := sb_19.out; omega))
  have g_19 := rdRows.mono g_18 (hTM.frame (fun k hk h => by have := s_b.out; have := s_1.out; have := s_2.out; have := s_3.out; have := s_4.out; have := s_5.out; have := s_6.out; have := s_7.out; have := s_8.out; have := sxB.out; have := s_9.out; have := s_10.out; have := s_11.out; have := s_12.out; have := s_13.out; have := s_14.out; have := s_15.out; have := s_16.out; have := s_17.out; have := s_18.out; have := sb_19.out; omega))
  clear a_18 b_18 r_18 yB0_18 yB1_18 g_18
  have s_19 := Lib.hid hTM.size
  have hqq0 : 0 ≤ q0 ∧ q0 ≤ 4000000 := by omega
  go_wp2_with fail
  refine Calls.mono (markInt64SS_ok _ U0 q0 wM _ yB0_19 ⟨by omega, by have := szTo_le U0; omega⟩) ?_
  rintro eN0 wN0 ⟨rfl, hTN0, _⟩
  clear yB0_19
  have sb_20 := Lib.hid b_19.1
  have a_20 := Touch.ext a_19 hTN0 (fun k hk => by have := s_b.out; have := s_1.out; have := s_2.out; have := s_3.out; have := s_4.out; have := s_5.out; have := s_6.out; have := s_7.out; have := s_8.out; have := sxB.out; have := s_9.out; have := s_10.out; have := s_11.out; have := s_12.out; have := s_13.out; have := s_14.out; have := s_15.out; have := s_16.out; have := s_17.out; have := s_18.out; have := sb_19.out; have := s_19.out; have := sb_20.out; omega)
  have b_20 := b_19.keep hTN0.size (hTN0.block _ b_19.1 (fun h => by have := s_b.out; have := s_1.out; have := s_2.out; have := s_3.out; have := s_4.out; have := s_5.out; have := s_6.out; have := s_7.out; have := s_8.out; have := sxB.out; have := s_9.out; have := s_10.out; have := s_11.out; have := s_12.out; have := s_13.out; have := s_14.out; have := s_15.out; have := s_16.out; have := s_17.out; have := s_18.out; have := sb_19.out; have := s_19.out; have := sb_20.out; omega))
  have r_20 := Rows2.mono r_19 (hTN0.frame (fun k hk h => by have := s_b.out; have := s_1.out; have := s_2.out; have := s_3.out; have := s_4.out; have := s_5.out; have := s_6.out; have := s_7.out; have := s_8.out; have := sxB.out; have := s_9.out; have := s_10.out; have := s_11.out; have := s_12.out; have := s_13.out; have := s_14.out; have := s_15.out; have := s_16.out; have := s_17.out; have := s_18.out; have := sb_19.out; have := s_19.out; have := sb_20.out; omega))
  have yB1_20 := rdRows.mono yB1_19 (hTN0.frame (fun k hk h => by have := s_b.out; have := s_1.out; have := s_2.out; have := s_3.out; have := s_4.out; have := s_5.out; have := s_6.out; have := s_7.out; have := s_8.out; have := sxB.out; have := s_9.out; have := s_10.out; have := s_11.out; have := s_12.out; have := s_13.out; have := s_14.out; have := s_15.out; have := s_16.out; have := s_17.out; have := s_18.out; have := sb_19.out; have := s_19.out; have := sb_20.out; omega))
  have g_20 := rdRows.mono g_19 (hTN0.frame (fun k hk h => by have := s_b.out; have := s_1.out; have := s_2.out; have := s_3.out; have := s_4.out; have := s_5.out; have := s_6.out; have := s_7.out; have := s_8.out; have := sxB.out; have := s_9.out; have := s_10.out; have := s_11.out; have := s_12.out; have := s_13.out; have := s_14.out; have := s_15.out; have := s_16.out; have := s_17.out; have := s_18.out; have := sb_19.out; have := s_19.out; have := sb_20.out; omega))
  clear a_19 b_19 r_19 yB1_19 g_19
  have s_20 := Lib.hid hTN0.size
  obtain ⟨q1, hq1⟩ : ∃ q1 : Int, q1 = q0 + (tot2 U0 : Nat) := ⟨_, rfl⟩
  rw [← hq1]
  have hqb1 : 0 ≤ q1 ∧ q1 ≤ 5100000 := by have := szTo_le U0; omega
  clear hq1
  have hqq1 : 0 ≤ q1 ∧ q1 ≤ 5100000 := by omega
  go_wp2_with fail
  refine Calls.mono (markInt64SS_ok _ U1 q1 wN0 _ yB1_20 ⟨by omega, by have := szTo_le U1; omega⟩) ?_
  rintro eN1 wN1 ⟨rfl, hTN1, _⟩
  clear yB1_20
  have sb_21 := Lib.hid b_20.1
  have a_21 := Touch.ext a_20 hTN1 (fun k hk => by have := s_b.out; have := s_1.out; have := s_2.out; have := s_3.out; have := s_4.out; have := s_5.out; have := s_6.out; have := s_7.out; have := s_8.out; have := sxB.out; have := s_9.out; have := s_10.out; have := s_11.out; have := s_12.out; have := s_13.out; have := s_14.out; have := s_15.out; have := s_16.out; have := s_17.out; have := s_18.out; have := sb_19.out; have := s_19.out; have := sb_20.out; have := s_20.out; have := sb_21.out; omega)
  have b_21 := b_20.keep hTN1.size (hTN1.block _ b_20.1 (fun h => by have := s_b.out; have := s_1.out; have := s_2.out; have := s_3.out; have := s_4.out; have := s_5.out; have := s_6.out; have := s_7.out; have := s_8.out; have := sxB.out; have := s_9.out; have := s_10.out; have := s_11.out; have := s_12.out; have := s_13.out; have := s_14.out; have := s_15.out; have := s_16.out; have := s_17.out; have := s_18.out; have := sb_19.out; have := s_19.out; have := sb_20.out; have := s_20.out; have := sb_21.out; omega))
  have r_21 := Rows2.mono r_20 (hTN1.frame (fun k hk h => by have := s_b.out; have := s_1.out; have := s_2.out; have := s_3.out; have := s_4.out; have := s_5.out; have := s_6.out; have := s_7.out; have := s_8.out; have := sxB.out; have := s_9.out; have := s_10.out; have := s_11.out; have := s_12.out; have := s_13.out; have := s_14.out; have := s_15.out; have := s_16.out; have := s_17.out; have := s_18.out; have := sb_19.out; have := s_19.out; have := sb_20.out; have := s_20.out; have := sb_21.out; omega))
  have g_21 := rdRows.mono g_20 (hTN1.frame (fun k hk h => by have := s_b.out; have := s_1.out; have := s_2.out; have := s_3.out; have := s_4.out; have := s_5.out; have := s_6.out; have := s_7.out; have := s_8.out; have := sxB.out; have := s_9.out; have := s_10.out; have := s_11.out; have := s_12.out; have := s_13.out; have := s_14.out; have := s_15.out; have := s_16.out; have := s_17.out; have := s_18.out; have := sb_19.out; have := s_19.out; have := sb_20.out; have := s_20.out; have := sb_21.out; omega))
  clear a_20 b_20 r_20 g_20
  have s_21 := Lib.hid hTN1.size
  obtain ⟨q2, hq2⟩ : ∃ q2 : Int, q2 = q1 + (tot2 U1 : Nat) := ⟨_, rfl⟩
  rw [← hq2]
  have hqb2 : 0 ≤ q2 ∧ q2 ≤ 6200000 := by have := szTo_le U1; omega
  clear hq2
  have hqn : ¬ q2 < 0 := by omega
  go_wp2_with fail
  refine Calls.mono (eqInt64SS_ok _ _ _ _ wN1 _ _ (RowsD.rows g_21) r_21) ?_
  rintro eI wI ⟨vI, rfl, hgI, rfl⟩
  have a_22 := grown_trans a_21 hgI
  have b_22 := b_21.ext hgI
  have r_22 := Rows2.ext r_21 hgI
  have g_22 := rdRows.mono g_21 (frame_ext hgI)
  clear a_21 b_21 r_21 g_21
  have s_22 := Lib.hid hgI.size
  have hbt : tot2 (dcsL P U0 U1) ≤ 1000000 := dcsL_tot P U0 U1
  have Hbt := Lib.hid hbt; clear hbt
  go_wp2_with fail
  refine Calls.mono (markInt64SS_ok _ (dcsL P U0 U1) 1 wI _ g_22 ⟨by omega, by have := Hbt.out; omega⟩) ?_
  rintro eO wO ⟨rfl, hTO, hgO⟩
  clear g_22
  have sb_23 := Lib.hid b_22.1
  have a_23 := Touch.ext a_22 hTO (fun k hk => by have := s_b.out; have := s_1.out; have := s_2.out; have := s_3.out; have := s_4.out; have := s_5.out; have := s_6.out; have := s_7.out; have := s_8.out; have := sxB.out; have := s_9.out; have := s_10.out; have := s_11.out; have := s_12.out; have := s_13.out; have := s_14.out; have := s_15.out; have := s_16.out; have := s_17.out; have := s_18.out; have := sb_19.out; have := s_19.out; have := sb_20.out; have := s_20.out; have := sb_21.out; have := s_21.out; have := s_22.out; have := sb_23.out; omega)
  have b_23 := b_22.keep hTO.size (hTO.block _ b_22.1 (fun h => by have := s_b.out; have := s_1.out; have := s_2.out; have := s_3.out; have := s_4.out; have := s_5.out; have := s_6.out; have := s_7.out; have := s_8.out; have := sxB.out; have := s_9.out; have := s_10.out; have := s_11.out; have := s_12.out; have := s_13.out; have := s_14.out; have := s_15.out; have := s_16.out; have := s_17.out; have := s_18.out; have := sb_19.out; have := s_19.out; have := sb_20.out; have := s_20.out; have := sb_21.out; have := s_21.out; have := s_22.out; have := sb_23.out; omega))
  have r_23 := Rows2.mono r_22 (hTO.frame (fun k hk h => by have := s_b.out; have := s_1.out; have := s_2.out; have := s_3.out; have := s_4.out; have := s_5.out; have := s_6.out; have := s_7.out; have := s_8.out; have := sxB.out; have := s_9.out; have := s_10.out; have := s_11.out; have := s_12.out; have := s_13.out; have := s_14.out; have := s_15.out; have := s_16.out; have := s_17.out; have := s_18.out; have := sb_19.out; have := s_19.out; have := sb_20.out; have := s_20.out; have := sb_21.out; have := s_21.out; have := s_22.out; have := sb_23.out; omega))
  clear a_22 b_22 r_22
  have s_23 := Lib.hid hTO.size
  obtain ⟨tt, htt⟩ : ∃ tt : Int, tt = (tot2 (dcsL P U0 U1) : Nat) := ⟨_, rfl⟩
  have htb : 0 ≤ tt ∧ tt ≤ 1000000 := by have := Hbt.out; omega
  rw [← htt]
  have hk1 : ¬ (1 + tt < 0) := by omega
  go_wp2_with fail
  refine Calls.mono (heldInt64SS_ok _ (dcsL P U0 U1) 1 wO _ (RowsD.rows hgO) ⟨by omega, by have := Hbt.out; omega⟩) ?_
  rintro eQ wQ ⟨vQ, rfl, hgQ, rfl⟩
  rw [← htt]
  have a_24 := grown_trans a_23 hgQ
  have b_24 := b_23.ext hgQ
  have r_24 := Rows2.ext r_23 hgQ
  have g_24 := rdRows.mono hgO (frame_ext hgQ)
  clear a_23 b_23 r_23 hgO
  have s_24 := Lib.hid hgQ.size
  obtain ⟨_, b0, b1, b2, _⟩ := id b_24
  go_wp2_with fail
  clear b0 b1 b2
  refine Calls.mono (toPresentation_ok _ P wQ S ⟨_, _, _, rfl, h3.ext a_24⟩ hsz) ?_
  rintro eEP wEP ⟨vEP, rfl, hgEP, hpE⟩
  have hqE : PresW (fun k => wQ.heap.size ≤ k ∧ k < wEP.heap.size) wEP vEP P := hpE.mono (fun k hk hlt => ⟨⟨hk, hlt⟩, hlt, rfl⟩)
  obtain ⟨Ea1, Ec1, Ea2, Ec2, Ea3, Ec3, rfl⟩ := hpE.shape
  clear hpE
  have a_25 := grown_trans a_24 hgEP
  have b_25 := b_24.ext hgEP
  have r_25 := Rows2.ext r_24 hgEP
  have g_25 := rdRows.mono g_24 (frame_ext hgEP)
  clear a_24 b_24 r_24 g_24
  have s_25 := Lib.hid hgEP.size
  go_wp2_with fail
  refine Calls.mono (toInt64SS_ok _ U0 wEP S0 (Rows2.ext hu0 a_25) hsu0) ?_
  rintro eE0 wE0 ⟨vE0, rfl, hgE0, hO⟩
  have hyE0 : RowsD (fun k => wEP.heap.size ≤ k ∧ k < wE0.heap.size) wE0 vE0 U0 := rdRows.mono (SlO.toD hO (by omega)) (fun k h1 h2 => ⟨⟨h1, h2⟩, h2, rfl⟩)
  clear hO
  obtain ⟨yEa0, yEc0, hvy, _, _⟩ := SlD.shape hyE0; subst hvy
  have a_26 := grown_trans a_25 hgE0
  have b_26 := b_25.ext hgE0
  have r_26 := Rows2.ext r_25 hgE0
  have g_26 := rdRows.mono g_25 (frame_ext hgE0)
  have pE_26 := hqE.ext hgE0
  clear a_25 b_25 r_25 g_25 hqE
  have s_26 := Lib.hid hgE0.size
  go_wp2_with fail
  refine Calls.mono (toInt64SS_ok _ U1 wE0 S1 (Rows2.ext hu1 a_26) hsu1) ?_
  rintro eE1 wE1 ⟨vE1, rfl, hgE1, hO⟩
  have hyE1 : RowsD (fun k => wE0.heap.size ≤ k ∧ k < wE1.heap.size) wE1 vE1 U1 := rdRows.mono (SlO.toD hO (by omega)) (fun k h1 h2 => ⟨⟨h1, h2⟩, h2, rfl⟩)
  clear hO
  obtain ⟨yEa1, yEc1, hvy, _, _⟩ := SlD.shape hyE1; subst hvy
  have a_27 := grown_trans a_26 hgE1
  have b_27 := b_26.ext hgE1
  have r_27 := Rows2.ext r_26 hgE1
  have g_27 := rdRows.mono g_26 (frame_ext hgE1)
  have pE_27 := pE_26.ext hgE1
  have yE0_27 := rdRows.mono hyE0 (frame_ext hgE1)
  clear a_26 b_26 r_26 g_26 pE_26 hyE0
  have s_27 := Lib.hid hgE1.size
  go_wp2_with fail
  refine Calls.mono (iDcs_ok P wE1 _ _ _ U0 U1 _ _ _ (PresW.v pE_27) (RowsD.rows yE0_27) (RowsD.rows hyE1)) ?_
  rintro eK wK ⟨vK, rfl, hgK, rKa, rKn, rKc, rfl, hK⟩
  clear pE_27
  clear yE0_27
  clear hyE1
  have a_28 := grown_trans a_27 hgK
  have b_28 := b_27.ext hgK
  have r_28 := Rows2.ext r_27 hgK
  have g_28 := rdRows.mono g_27 (frame_ext hgK)
  clear a_27 b_27 r_27 g_27
  have s_28 := Lib.hid hgK.size
  have hKD := RowsD.rows (SlO.toD hK (by have := dcsL_len P U0 U1; omega))
  clear hK
  go_wp2_with fail
  refine Calls.mono (eqInt64SS_ok _ _ _ _ wK _ _ hKD r_28) ?_
  rintro eS wS ⟨vS, rfl, hgS, rfl⟩
  clear hKD
  have a_29 := grown_trans a_28 hgS
  have b_29 := b_28.ext hgS
  have r_29 := Rows2.ext r_28 hgS
  have g_29 := rdRows.mono g_28 (frame_ext hgS)
  clear a_28 b_28 r_28 g_28
  have s_29 := Lib.hid hgS.size
  go_wp2_with fail
  refine Calls.mono (heldInt64SS_ok _ (dcsL P U0 U1) 1 wS _ (RowsD.rows g_29) ⟨by omega, by have := Hbt.out; omega⟩) ?_
  rintro eT wT ⟨vT, rfl, hgT, rfl⟩
  rw [← htt]
  have a_30 := grown_trans a_29 hgT
  have b_30 := b_29.ext hgT
  have r_30 := Rows2.ext r_29 hgT
  have g_30 := rdRows.mono g_29 (frame_ext hgT)
  clear a_29 b_29 r_29 g_29
  have s_30 := Lib.hid hgT.size
  go_wp2
  go_ret
  exact ⟨_, rfl, a_30, rfl⟩

end Go.Proofs.YtchbegeklckgnaaGreat
