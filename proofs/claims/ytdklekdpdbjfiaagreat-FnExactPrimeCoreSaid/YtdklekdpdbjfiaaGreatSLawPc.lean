/-
  laws.FnExactPrimeCore: whatever the arguments, the law answers true. (Printed by gen_law.py.)
-/
import Derived.Test.YtdklekdpdbjfiaaGreatK2
import Derived.Test.YtdklekdpdbjfiaaGreatK9
namespace Go.Proofs.YtdklekdpdbjfiaaGreat
open Go.RowKit

set_option maxRecDepth 100000 in
set_option maxHeartbeats 32000000 in
theorem lawPc_ok (P : Pr) (U0 : List Int) (w : World) (pv uv0 : Value) (S S0 : Nat → Prop) (hpv : PresV S w pv P) (hu0 : Ints S0 w uv0 U0) :
    Calls Tryz.prog 9 #[pv, uv0] w (Ret w fun _ v => v = .bool true) := by
  obtain ⟨vo, vp, vc, rfl, h3⟩ := hpv
  obtain ⟨au0, cu0, rfl, _, hub0⟩ := hu0.shape
  have hg0 : Ext w (w.alloc (.cells #[vo, vp, vc] 26)) := World.grownBy_alloc _ _ _
  have hB := Box3.made w 26 vo vp vc
  have HB := Lib.hid hB; clear hB
  go_enter Tryz.func9, Tryz.ntmps9
  by_cases hq0 : (1048576 : Int) < U0.length
  · go_wp2
    go_ret
    exact ⟨_, rfl, hg0, rfl⟩
  have hql0 : U0.length ≤ 1048576 := by omega
  go_wp2_with fail
  generalize w.alloc (.cells #[vo, vp, vc] 26) = w0 at *
  have hbx := HB.out
  have s_b := Lib.hid hbx.1
  refine Calls.mono (szPresentation_ok _ P 1048576 _ S ⟨_, _, _, rfl, h3.ext hg0⟩ (by omega)) ?_
  rintro eA wA ⟨vA, rfl, hgA, ⟨hA, rfl⟩ | ⟨hA, rfl⟩⟩
  case inr =>
    go_wp2
    go_ret
    exact ⟨_, rfl, grown_trans hg0 hgA, rfl⟩
  have hsz : sizeP P ≤ 1048576 := by omega
  obtain ⟨l0, hl0⟩ : ∃ l0 : Int, l0 = 1048576 - (sizeP P : Nat) := ⟨_, rfl⟩
  rw [← hl0]
  have hb0 : 0 ≤ l0 ∧ l0 ≤ 1048576 := by omega
  have Hl0 := Lib.hid hl0; clear hl0 hA
  have hn0 : ¬ l0 < 0 := by omega
  have a_1 := grown_trans hg0 hgA
  have b_1 := hbx.ext hgA
  clear hg0 hbx
  have s_1 := Lib.hid hgA.size
  obtain ⟨_, b0, b1, b2, _⟩ := id b_1
  go_wp2_with fail
  clear b0 b1 b2
  refine Calls.mono (toPresentation_ok _ P wA S ⟨_, _, _, rfl, h3.ext a_1⟩ hsz) ?_
  rintro eAP wAP ⟨vAP, rfl, hgAP, hpA⟩
  have hqA : PresW (fun k => wA.heap.size ≤ k ∧ k < wAP.heap.size) wAP vAP P := hpA.mono (fun k hk hlt => ⟨⟨hk, hlt⟩, hlt, rfl⟩)
  obtain ⟨Aa1, Ac1, Aa2, Ac2, Aa3, Ac3, rfl⟩ := hpA.shape
  clear hpA
  have a_2 := grown_trans a_1 hgAP
  have b_2 := b_1.ext hgAP
  clear a_1 b_1
  have s_2 := Lib.hid hgAP.size
  go_wp2_with fail
  refine Calls.mono (toInt64S_ok _ U0 wAP S0 (Ints.ext hu0 a_2) hql0) ?_
  rintro eA0 wA0 ⟨vA0, rfl, hgA0, hO⟩
  have hyA0 : OwnIn (fun k => wAP.heap.size ≤ k ∧ k < wA0.heap.size) wA0 vA0 U0 := OwnIn.of hO (by omega) (fun k h1 h2 => ⟨h1, h2⟩)
  clear hO
  obtain ⟨yAa0, yAc0, hvy, _, _⟩ := hyA0.ints.shape; subst hvy
  have a_3 := grown_trans a_2 hgA0
  have b_3 := b_2.ext hgA0
  have pA_3 := hqA.ext hgA0
  clear a_2 b_2 hqA
  have s_3 := Lib.hid hgA0.size
  go_wp2_with fail
  refine Calls.mono (sPc_ok P wA0 _ _ U0 _ _ (PresW.v pA_3) hyA0.ints) ?_
  rintro eR wR ⟨vR, rfl, hgR, rRa, rRn, rRc, rfl, hR⟩
  clear pA_3
  clear hyA0
  have a_4 := grown_trans a_3 hgR
  have b_4 := b_3.ext hgR
  clear a_3 b_3
  have s_4 := Lib.hid hgR.size
  have hr : Rows2 (fun k => k < wR.heap.size) wR (.slice rRa rRn rRc) (pcL P U0) := Rows2.sub hR (fun k _ h => h)
  clear hR
  obtain ⟨_, b0, b1, b2, _⟩ := id b_4
  go_wp2_with fail
  clear b0 b1 b2
  refine Calls.mono (toPresentation_ok _ P wR S ⟨_, _, _, rfl, h3.ext a_4⟩ hsz) ?_
  rintro eBP wBP ⟨vBP, rfl, hgBP, hpB⟩
  have hqB : PresW (fun k => wR.heap.size ≤ k ∧ k < wBP.heap.size) wBP vBP P := hpB.mono (fun k hk hlt => ⟨⟨hk, hlt⟩, hlt, rfl⟩)
  obtain ⟨Ba1, Bc1, Ba2, Bc2, Ba3, Bc3, rfl⟩ := hpB.shape
  clear hpB
  have a_5 := grown_trans a_4 hgBP
  have b_5 := b_4.ext hgBP
  have r_5 := Rows2.ext hr hgBP
  clear a_4 b_4 hr
  have s_5 := Lib.hid hgBP.size
  have hgBX : Ext wBP (wBP.alloc (.cells #[.slice Ba1 P.orders.length Bc1, .slice Ba2 P.powers.length Bc2, .slice Ba3 P.conj.length Bc3] 31)) := World.grownBy_alloc _ _ _
  have hxB := Box3.made wBP 31 (.slice Ba1 P.orders.length Bc1) (.slice Ba2 P.powers.length Bc2) (.slice Ba3 P.conj.length Bc3)
  have sxB : (wBP.alloc (.cells #[.slice Ba1 P.orders.length Bc1, .slice Ba2 P.powers.length Bc2, .slice Ba3 P.conj.length Bc3] 31)).heap.size = wBP.heap.size + 1 := by simp
  have HxB := Lib.hid (And.intro hxB sxB); clear hxB sxB
  go_wp2_with fail
  generalize wBP.alloc (.cells #[.slice Ba1 P.orders.length Bc1, .slice Ba2 P.powers.length Bc2, .slice Ba3 P.conj.length Bc3] 31) = wBX at *
  have hxxB := HxB.out.1
  have sxB := Lib.hid HxB.out.2
  have a_6 := grown_trans a_5 hgBX
  have b_6 := b_5.ext hgBX
  have r_6 := Rows2.ext r_5 hgBX
  have pB_6 := hqB.ext hgBX
  clear a_5 b_5 r_5 hqB
  have s_6 := Lib.hid hgBX.size
  refine Calls.mono (toInt64S_ok _ U0 wBX S0 (Ints.ext hu0 a_6) hql0) ?_
  rintro eB0 wB0 ⟨vB0, rfl, hgB0, hO⟩
  have hyB0 : OwnIn (fun k => wBX.heap.size ≤ k ∧ k < wB0.heap.size) wB0 vB0 U0 := OwnIn.of hO (by omega) (fun k h1 h2 => ⟨h1, h2⟩)
  clear hO
  obtain ⟨yBa0, yBc0, hvy, _, _⟩ := hyB0.ints.shape; subst hvy
  have a_7 := grown_trans a_6 hgB0
  have b_7 := b_6.ext hgB0
  have r_7 := Rows2.ext r_6 hgB0
  have pB_7 := pB_6.ext hgB0
  have xB_7 := hxxB.ext hgB0
  clear a_6 b_6 r_6 pB_6 hxxB
  have s_7 := Lib.hid hgB0.size
  obtain ⟨_, b0, b1, b2, _⟩ := id xB_7
  go_wp2_with fail
  clear b0 b1 b2
  refine Calls.mono (iPc_ok P wB0 _ _ U0 _ _ (PresW.v pB_7) hyB0.ints) ?_
  rintro eG wG ⟨vG, rfl, hgG, rGa, rGn, rGc, rfl, hG⟩
  have a_8 := grown_trans a_7 hgG
  have b_8 := b_7.ext hgG
  have r_8 := Rows2.ext r_7 hgG
  have pB_8 := pB_7.ext hgG
  have xB_8 := xB_7.ext hgG
  have yB0_8 := rdOwn.mono hyB0 (frame_ext hgG)
  clear a_7 b_7 r_7 pB_7 xB_7 hyB0
  have s_8 := Lib.hid hgG.size
  have hg_ : RowsD (fun k => wB0.heap.size ≤ k ∧ k < wG.heap.size) wG (.slice rGa rGn rGc) (pcL P U0) := rdRows.mono (SlO.toD hG (by have := pc_len P U0; omega)) (fun k h1 h2 => ⟨⟨h1, h2⟩, h2, rfl⟩)
  clear hG
  have hEV : eqB (pcL P U0) (pcL P U0) = true := eqB_true.2 rfl
  go_wp2_with fail
  refine Calls.mono (eqInt64SS_ok _ _ _ _ wG _ _ (RowsD.rows hg_) r_8) ?_
  rintro eH wH ⟨vH, rfl, hgH, rfl⟩
  have a_9 := grown_trans a_8 hgH
  have b_9 := b_8.ext hgH
  have r_9 := Rows2.ext r_8 hgH
  have pB_9 := pB_8.ext hgH
  have xB_9 := xB_8.ext hgH
  have yB0_9 := rdOwn.mono yB0_8 (frame_ext hgH)
  have g_9 := rdRows.mono hg_ (frame_ext hgH)
  clear a_8 b_8 r_8 pB_8 xB_8 yB0_8 hg_
  have s_9 := Lib.hid hgH.size
  go_wp2_with fail
  have ha0 : ∀ w', Ext wH w' → w'.cell? ⟨w.heap.size, 0, none⟩ = some vo := fun w' h => (b_9.ext h).2.1
  have ha1 : ∀ w', Ext wH w' → w'.cell? ⟨w.heap.size, 1, none⟩ = some vp := fun w' h => (b_9.ext h).2.2.1
  have ha2 : ∀ w', Ext wH w' → w'.cell? ⟨w.heap.size, 2, none⟩ = some vc := fun w' h => (b_9.ext h).2.2.2.1
  have hx0 : ∀ w', Ext wH w' → w'.cell? ⟨wBP.heap.size, 0, none⟩ = some (.slice Ba1 P.orders.length Bc1) := fun w' h => (xB_9.ext h).2.1
  have hx1 : ∀ w', Ext wH w' → w'.cell? ⟨wBP.heap.size, 1, none⟩ = some (.slice Ba2 P.powers.length Bc2) := fun w' h => (xB_9.ext h).2.2.1
  have hx2 : ∀ w', Ext wH w' → w'.cell? ⟨wBP.heap.size, 2, none⟩ = some (.slice Ba3 P.conj.length Bc3) := fun w' h => (xB_9.ext h).2.2.2.1
  go_region_held3 (fun w' => Ext wH w') (first | exact grown_drew _ _ | assumption)
    (first
      | (go_at_call 18; refine Calls.mono (Calls.rel (w0 := wH) (by assumption) (toPresentation_ok _ P _ S ⟨_, _, _, rfl, Pres3.ext h3 (grown_trans a_9 (by assumption))⟩ hsz)) ?_; rintro e8 w8 ⟨v8, rfl, hg8, hs8, hp8⟩; obtain ⟨ya, yc, yb, yd, ye, yf, rfl⟩ := hp8.shape)
      | (go_at_call 21; refine Calls.mono (Calls.rel (w0 := wH) (by assumption) (eqPresentation_ok _ _ P _ _ _ (PresW.v (PresW.ext pB_9 (by assumption))) (PresW.v hp8))) ?_; rintro e9 w9 ⟨v9, rfl, hg9, hs9, rfl⟩))
  clear ha0 ha1 ha2 hx0 hx1 hx2 hp8 hg8
  have a_10 := grown_trans a_9 hg9
  have b_10 := b_9.ext hg9
  have r_10 := Rows2.ext r_9 hg9
  have pB_10 := pB_9.ext hg9
  have xB_10 := xB_9.ext hg9
  have yB0_10 := rdOwn.mono yB0_9 (frame_ext hg9)
  have g_10 := rdRows.mono g_9 (frame_ext hg9)
  clear a_9 b_9 r_9 pB_9 xB_9 yB0_9 g_9
  have s_10 := Lib.hid hg9.size
  go_wp2_with fail
  refine Calls.mono (toInt64S_ok _ U0 w9 S0 (Ints.ext hu0 a_10) hql0) ?_
  rintro eC0 wC0 ⟨vC0, rfl, hgC0, hO⟩
  have hOD := hO.ints (by omega)
  clear hO
  obtain ⟨za0, zc0, hvz, _, _⟩ := hOD.shape; subst hvz
  have a_11 := grown_trans a_10 hgC0
  have b_11 := b_10.ext hgC0
  have r_11 := Rows2.ext r_10 hgC0
  have pB_11 := pB_10.ext hgC0
  have xB_11 := xB_10.ext hgC0
  have yB0_11 := rdOwn.mono yB0_10 (frame_ext hgC0)
  have g_11 := rdRows.mono g_10 (frame_ext hgC0)
  clear a_10 b_10 r_10 pB_10 xB_10 yB0_10 g_10
  have s_11 := Lib.hid hgC0.size
  go_wp2_with fail
  refine Calls.mono (eqInt64S_ok _ _ _ _ wC0 _ _ yB0_11.ints hOD) ?_
  rintro eD0 wD0 ⟨vD0, rfl, hgD0, rfl⟩
  clear hOD
  have hEU0 : eqB U0 U0 = true := eqB_true.2 rfl
  have a_12 := grown_trans a_11 hgD0
  have b_12 := b_11.ext hgD0
  have r_12 := Rows2.ext r_11 hgD0
  have pB_12 := pB_11.ext hgD0
  have xB_12 := xB_11.ext hgD0
  have yB0_12 := rdOwn.mono yB0_11 (frame_ext hgD0)
  have g_12 := rdRows.mono g_11 (frame_ext hgD0)
  clear a_11 b_11 r_11 pB_11 xB_11 yB0_11 g_11
  have s_12 := Lib.hid hgD0.size
  obtain ⟨_, c0, c1, c2, _⟩ := id xB_12
  go_wp2_with fail
  clear c0 c1 c2 hEU0
  refine Calls.mono (markPresentationB_ok _ P wD0 _ pB_12 hsz) ?_
  rintro eM wM ⟨q0, hq0, rfl, hTM⟩
  clear pB_12 xB_12
  have sb_13 := Lib.hid b_12.1
  have a_13 := Touch.ext a_12 hTM (fun k hk => by have := s_b.out; have := s_1.out; have := s_2.out; have := s_3.out; have := s_4.out; have := s_5.out; have := sxB.out; have := s_6.out; have := s_7.out; have := s_8.out; have := s_9.out; have := s_10.out; have := s_11.out; have := s_12.out; have := sb_13.out; omega)
  have b_13 := b_12.keep hTM.size (hTM.block _ b_12.1 (fun h => by have := s_b.out; have := s_1.out; have := s_2.out; have := s_3.out; have := s_4.out; have := s_5.out; have := sxB.out; have := s_6.out; have := s_7.out; have := s_8.out; have := s_9.out; have := s_10.out; have := s_11.out; have := s_12.out; have := sb_13.out; omega))
  have r_13 := Rows2.mono r_12 (hTM.frame (fun k hk h => by have := s_b.out; have := s_1.out; have := s_2.out; have := s_3.out; have := s_4.out; have := s_5.out; have := sxB.out; have := s_6.out; have := s_7.out; have := s_8.out; have := s_9.out; have := s_10.out; have := s_11.out; have := s_12.out; have := sb_13.out; omega))
  have yB0_13 := rdOwn.mono yB0_12 (hTM.frame (fun k hk h => by have := s_b.out; have := s_1.out; have := s_2.out; have := s_3.out; have := s_4.out; have := s_5.out; have := sxB.out; have := s_6.out; have := s_7.out; have := s_8.out; have := s_9.out; have := s_10.out; have := s_11.out; have := s_12.out; have := sb_13.out; omega))
  have g_13 := rdRows.mono g_12 (hTM.frame (fun k hk h => by have := s_b.out; have := s_1.out; have := s_2.out; have := s_3.out; have := s_4.out; have := s_5.out; have := sxB.out; have := s_6.out; have := s_7.out; have := s_8.out; have := s_9.out; have := s_10.out; have := s_11.out; have := s_12.out; have := sb_13.out; omega))
  clear a_12 b_12 r_12 yB0_12 g_12
  have s_13 := Lib.hid hTM.size
  have hqq0 : 0 ≤ q0 ∧ q0 ≤ 4000000 := by omega
  go_wp2_with fail
  refine Calls.mono (markInt64S_ok _ U0 q0 wM _ yB0_13 ⟨by omega, by omega⟩) ?_
  rintro eN0 wN0 ⟨rfl, hTN0, _⟩
  clear yB0_13
  have sb_14 := Lib.hid b_13.1
  have a_14 := Touch.ext a_13 hTN0 (fun k hk => by have := s_b.out; have := s_1.out; have := s_2.out; have := s_3.out; have := s_4.out; have := s_5.out; have := sxB.out; have := s_6.out; have := s_7.out; have := s_8.out; have := s_9.out; have := s_10.out; have := s_11.out; have := s_12.out; have := sb_13.out; have := s_13.out; have := sb_14.out; omega)
  have b_14 := b_13.keep hTN0.size (hTN0.block _ b_13.1 (fun h => by have := s_b.out; have := s_1.out; have := s_2.out; have := s_3.out; have := s_4.out; have := s_5.out; have := sxB.out; have := s_6.out; have := s_7.out; have := s_8.out; have := s_9.out; have := s_10.out; have := s_11.out; have := s_12.out; have := sb_13.out; have := s_13.out; have := sb_14.out; omega))
  have r_14 := Rows2.mono r_13 (hTN0.frame (fun k hk h => by have := s_b.out; have := s_1.out; have := s_2.out; have := s_3.out; have := s_4.out; have := s_5.out; have := sxB.out; have := s_6.out; have := s_7.out; have := s_8.out; have := s_9.out; have := s_10.out; have := s_11.out; have := s_12.out; have := sb_13.out; have := s_13.out; have := sb_14.out; omega))
  have g_14 := rdRows.mono g_13 (hTN0.frame (fun k hk h => by have := s_b.out; have := s_1.out; have := s_2.out; have := s_3.out; have := s_4.out; have := s_5.out; have := sxB.out; have := s_6.out; have := s_7.out; have := s_8.out; have := s_9.out; have := s_10.out; have := s_11.out; have := s_12.out; have := sb_13.out; have := s_13.out; have := sb_14.out; omega))
  clear a_13 b_13 r_13 g_13
  have s_14 := Lib.hid hTN0.size
  obtain ⟨q1, hq1⟩ : ∃ q1 : Int, q1 = q0 + (U0.length : Nat) := ⟨_, rfl⟩
  rw [← hq1]
  have hqb1 : 0 ≤ q1 ∧ q1 ≤ 5100000 := by omega
  clear hq1
  have hqn : ¬ q1 < 0 := by omega
  go_wp2_with fail
  refine Calls.mono (eqInt64SS_ok _ _ _ _ wN0 _ _ (RowsD.rows g_14) r_14) ?_
  rintro eI wI ⟨vI, rfl, hgI, rfl⟩
  have a_15 := grown_trans a_14 hgI
  have b_15 := b_14.ext hgI
  have r_15 := Rows2.ext r_14 hgI
  have g_15 := rdRows.mono g_14 (frame_ext hgI)
  clear a_14 b_14 r_14 g_14
  have s_15 := Lib.hid hgI.size
  have hbt : tot2 (pcL P U0) ≤ 100000000 := pc_tot P U0
  have Hbt := Lib.hid hbt; clear hbt
  go_wp2_with fail
  refine Calls.mono (markInt64SS_ok _ (pcL P U0) 1 wI _ g_15 ⟨by omega, by have := Hbt.out; omega⟩) ?_
  rintro eO wO ⟨rfl, hTO, hgO⟩
  clear g_15
  have sb_16 := Lib.hid b_15.1
  have a_16 := Touch.ext a_15 hTO (fun k hk => by have := s_b.out; have := s_1.out; have := s_2.out; have := s_3.out; have := s_4.out; have := s_5.out; have := sxB.out; have := s_6.out; have := s_7.out; have := s_8.out; have := s_9.out; have := s_10.out; have := s_11.out; have := s_12.out; have := sb_13.out; have := s_13.out; have := sb_14.out; have := s_14.out; have := s_15.out; have := sb_16.out; omega)
  have b_16 := b_15.keep hTO.size (hTO.block _ b_15.1 (fun h => by have := s_b.out; have := s_1.out; have := s_2.out; have := s_3.out; have := s_4.out; have := s_5.out; have := sxB.out; have := s_6.out; have := s_7.out; have := s_8.out; have := s_9.out; have := s_10.out; have := s_11.out; have := s_12.out; have := sb_13.out; have := s_13.out; have := sb_14.out; have := s_14.out; have := s_15.out; have := sb_16.out; omega))
  have r_16 := Rows2.mono r_15 (hTO.frame (fun k hk h => by have := s_b.out; have := s_1.out; have := s_2.out; have := s_3.out; have := s_4.out; have := s_5.out; have := sxB.out; have := s_6.out; have := s_7.out; have := s_8.out; have := s_9.out; have := s_10.out; have := s_11.out; have := s_12.out; have := sb_13.out; have := s_13.out; have := sb_14.out; have := s_14.out; have := s_15.out; have := sb_16.out; omega))
  clear a_15 b_15 r_15
  have s_16 := Lib.hid hTO.size
  obtain ⟨tt, htt⟩ : ∃ tt : Int, tt = (tot2 (pcL P U0) : Nat) := ⟨_, rfl⟩
  have htb : 0 ≤ tt ∧ tt ≤ 100000000 := by have := Hbt.out; omega
  rw [← htt]
  have hk1 : ¬ (1 + tt < 0) := by omega
  go_wp2_with fail
  refine Calls.mono (heldInt64SS_ok _ (pcL P U0) 1 wO _ (RowsD.rows hgO) ⟨by omega, by have := Hbt.out; omega⟩) ?_
  rintro eQ wQ ⟨vQ, rfl, hgQ, rfl⟩
  rw [← htt]
  have a_17 := grown_trans a_16 hgQ
  have b_17 := b_16.ext hgQ
  have r_17 := Rows2.ext r_16 hgQ
  have g_17 := rdRows.mono hgO (frame_ext hgQ)
  clear a_16 b_16 r_16 hgO
  have s_17 := Lib.hid hgQ.size
  obtain ⟨_, b0, b1, b2, _⟩ := id b_17
  go_wp2_with fail
  clear b0 b1 b2
  refine Calls.mono (toPresentation_ok _ P wQ S ⟨_, _, _, rfl, h3.ext a_17⟩ hsz) ?_
  rintro eEP wEP ⟨vEP, rfl, hgEP, hpE⟩
  have hqE : PresW (fun k => wQ.heap.size ≤ k ∧ k < wEP.heap.size) wEP vEP P := hpE.mono (fun k hk hlt => ⟨⟨hk, hlt⟩, hlt, rfl⟩)
  obtain ⟨Ea1, Ec1, Ea2, Ec2, Ea3, Ec3, rfl⟩ := hpE.shape
  clear hpE
  have a_18 := grown_trans a_17 hgEP
  have b_18 := b_17.ext hgEP
  have r_18 := Rows2.ext r_17 hgEP
  have g_18 := rdRows.mono g_17 (frame_ext hgEP)
  clear a_17 b_17 r_17 g_17
  have s_18 := Lib.hid hgEP.size
  go_wp2_with fail
  refine Calls.mono (toInt64S_ok _ U0 wEP S0 (Ints.ext hu0 a_18) hql0) ?_
  rintro eE0 wE0 ⟨vE0, rfl, hgE0, hO⟩
  have hyE0 : OwnIn (fun k => wEP.heap.size ≤ k ∧ k < wE0.heap.size) wE0 vE0 U0 := OwnIn.of hO (by omega) (fun k h1 h2 => ⟨h1, h2⟩)
  clear hO
  obtain ⟨yEa0, yEc0, hvy, _, _⟩ := hyE0.ints.shape; subst hvy
  have a_19 := grown_trans a_18 hgE0
  have b_19 := b_18.ext hgE0
  have r_19 := Rows2.ext r_18 hgE0
  have g_19 := rdRows.mono g_18 (frame_ext hgE0)
  have pE_19 := hqE.ext hgE0
  clear a_18 b_18 r_18 g_18 hqE
  have s_19 := Lib.hid hgE0.size
  go_wp2_with fail
  refine Calls.mono (iPc_ok P wE0 _ _ U0 _ _ (PresW.v pE_19) hyE0.ints) ?_
  rintro eK wK ⟨vK, rfl, hgK, rKa, rKn, rKc, rfl, hK⟩
  clear pE_19
  clear hyE0
  have a_20 := grown_trans a_19 hgK
  have b_20 := b_19.ext hgK
  have r_20 := Rows2.ext r_19 hgK
  have g_20 := rdRows.mono g_19 (frame_ext hgK)
  clear a_19 b_19 r_19 g_19
  have s_20 := Lib.hid hgK.size
  have hKD := RowsD.rows (SlO.toD hK (by have := pc_len P U0; omega))
  clear hK
  go_wp2_with fail
  refine Calls.mono (eqInt64SS_ok _ _ _ _ wK _ _ hKD r_20) ?_
  rintro eS wS ⟨vS, rfl, hgS, rfl⟩
  clear hKD
  have a_21 := grown_trans a_20 hgS
  have b_21 := b_20.ext hgS
  have r_21 := Rows2.ext r_20 hgS
  have g_21 := rdRows.mono g_20 (frame_ext hgS)
  clear a_20 b_20 r_20 g_20
  have s_21 := Lib.hid hgS.size
  go_wp2_with fail
  refine Calls.mono (heldInt64SS_ok _ (pcL P U0) 1 wS _ (RowsD.rows g_21) ⟨by omega, by have := Hbt.out; omega⟩) ?_
  rintro eT wT ⟨vT, rfl, hgT, rfl⟩
  rw [← htt]
  have a_22 := grown_trans a_21 hgT
  have b_22 := b_21.ext hgT
  have r_22 := Rows2.ext r_21 hgT
  have g_22 := rdRows.mono g_21 (frame_ext hgT)
  clear a_21 b_21 r_21 g_21
  have s_22 := Lib.hid hgT.size
  go_wp2
  go_ret
  exact ⟨_, rfl, a_22, rfl⟩

end Go.Proofs.YtdklekdpdbjfiaaGreat
