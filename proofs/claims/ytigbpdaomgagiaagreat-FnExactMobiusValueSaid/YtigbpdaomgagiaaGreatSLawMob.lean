/-
  laws.FnExactMobiusValue: whatever the arguments, the law answers true. (Printed by gen_law.py.)
-/
import Derived.Test.YtigbpdaomgagiaaGreatK10
import Derived.Test.YtigbpdaomgagiaaGreatK9
import Derived.Test.YtigbpdaomgagiaaGreatSSMobV
namespace Go.Proofs.YtigbpdaomgagiaaGreat
open Go.RowKit

set_option maxRecDepth 100000 in
set_option maxHeartbeats 32000000 in
theorem lawMob_ok (P : Pr) (U0 : List (List Int)) (w : World) (pv uv0 : Value) (S S0 : Nat → Prop) (hpv : PresV S w pv P) (hu0 : Rows2 S0 w uv0 U0) :
    Calls Tryz.prog 10 #[pv, uv0] w (Ret w fun _ v => v = .bool true) := by
  obtain ⟨vo, vp, vc, rfl, h3⟩ := hpv
  obtain ⟨au0, cu0, rfl, _, hub0⟩ := Sl.shape hu0
  have hg0 : Ext w (w.alloc (.cells #[vo, vp, vc] 26)) := World.grownBy_alloc _ _ _
  have hB := Box3.made w 26 vo vp vc
  have HB := Lib.hid hB; clear hB
  go_enter Tryz.func10, Tryz.ntmps10
  go_wp2_with fail
  generalize w.alloc (.cells #[vo, vp, vc] 26) = w0 at *
  have hbx := HB.out
  have s_b := Lib.hid hbx.1
  refine Calls.mono (szPresentation_ok _ P 1048576 _ S ⟨_, _, _, rfl, h3.ext hg0⟩ (by omega)) ?_
  rintro eA wA ⟨vA, rfl, hgA, ⟨hA, rfl⟩ | ⟨hA, rfl⟩⟩
  case inr =>
    go_wp2
    go_ret
    exact ⟨_, rfl, grown_trans hg0 hgA, rfl⟩
  have hsz : sizeP P ≤ 1048576 := by omega
  obtain ⟨l0, hl0⟩ : ∃ l0 : Int, l0 = 1048576 - (sizeP P : Nat) := ⟨_, rfl⟩
  rw [← hl0]
  have hb0 : 0 ≤ l0 ∧ l0 ≤ 1048576 := by omega
  have Hl0 := Lib.hid hl0; clear hl0 hA
  have hn0 : ¬ l0 < 0 := by omega
  have a_1 := grown_trans hg0 hgA
  have b_1 := hbx.ext hgA
  clear hg0 hbx
  have s_1 := Lib.hid hgA.size
  go_wp2_with fail
  refine Calls.mono (szInt64SS_ok _ U0 l0 _ S0 (Rows2.ext hu0 a_1) hb0) ?_
  rintro eB0 wB0 ⟨vB0, rfl, hgB0, ⟨hA, rfl⟩ | ⟨hA, rfl⟩⟩
  case inr =>
    go_wp2
    go_ret
    exact ⟨_, rfl, grown_trans a_1 hgB0, rfl⟩
  have hsu0 : size2 U0 ≤ 1048576 := by omega
  obtain ⟨l1, hl1⟩ : ∃ l1 : Int, l1 = l0 - (size2 U0 : Nat) := ⟨_, rfl⟩
  rw [← hl1]
  have hb1 : 0 ≤ l1 ∧ l1 ≤ 1048576 := by omega
  have Hl1 := Lib.hid hl1; clear hl1 hA hn0
  have hn1 : ¬ l1 < 0 := by omega
  have a_2 := grown_trans a_1 hgB0
  have b_2 := b_1.ext hgB0
  clear a_1 b_1
  have s_2 := Lib.hid hgB0.size
  obtain ⟨_, b0, b1, b2, _⟩ := id b_2
  go_wp2_with fail
  clear b0 b1 b2
  refine Calls.mono (toPresentation_ok _ P wB0 S ⟨_, _, _, rfl, h3.ext a_2⟩ hsz) ?_
  rintro eAP wAP ⟨vAP, rfl, hgAP, hpA⟩
  have hqA : PresW (fun k => wB0.heap.size ≤ k ∧ k < wAP.heap.size) wAP vAP P := hpA.mono (fun k hk hlt => ⟨⟨hk, hlt⟩, hlt, rfl⟩)
  obtain ⟨Aa1, Ac1, Aa2, Ac2, Aa3, Ac3, rfl⟩ := hpA.shape
  clear hpA
  have a_3 := grown_trans a_2 hgAP
  have b_3 := b_2.ext hgAP
  clear a_2 b_2
  have s_3 := Lib.hid hgAP.size
  go_wp2_with fail
  refine Calls.mono (toInt64SS_ok _ U0 wAP S0 (Rows2.ext hu0 a_3) hsu0) ?_
  rintro eA0 wA0 ⟨vA0, rfl, hgA0, hO⟩
  have hyA0 : RowsD (fun k => wAP.heap.size ≤ k ∧ k < wA0.heap.size) wA0 vA0 U0 := rdRows.mono (SlO.toD hO (by omega)) (fun k h1 h2 => ⟨⟨h1, h2⟩, h2, rfl⟩)
  clear hO
  obtain ⟨yAa0, yAc0, hvy, _, _⟩ := SlD.shape hyA0; subst hvy
  have a_4 := grown_trans a_3 hgA0
  have b_4 := b_3.ext hgA0
  have pA_4 := hqA.ext hgA0
  clear a_3 b_3 hqA
  have s_4 := Lib.hid hgA0.size
  go_wp2_with fail
  refine Calls.mono (sMob_ok P wA0 _ _ U0 _ _ (PresW.v pA_4) (RowsD.rows hyA0)) ?_
  rintro eR wR ⟨vR, rfl, hgR, rfl⟩
  clear pA_4
  clear hyA0
  have a_5 := grown_trans a_4 hgR
  have b_5 := b_4.ext hgR
  clear a_4 b_4
  have s_5 := Lib.hid hgR.size
  obtain ⟨_, b0, b1, b2, _⟩ := id b_5
  go_wp2_with fail
  clear b0 b1 b2
  refine Calls.mono (toPresentation_ok _ P wR S ⟨_, _, _, rfl, h3.ext a_5⟩ hsz) ?_
  rintro eBP wBP ⟨vBP, rfl, hgBP, hpB⟩
  have hqB : PresW (fun k => wR.heap.size ≤ k ∧ k < wBP.heap.size) wBP vBP P := hpB.mono (fun k hk hlt => ⟨⟨hk, hlt⟩, hlt, rfl⟩)
  obtain ⟨Ba1, Bc1, Ba2, Bc2, Ba3, Bc3, rfl⟩ := hpB.shape
  clear hpB
  have a_6 := grown_trans a_5 hgBP
  have b_6 := b_5.ext hgBP
  clear a_5 b_5
  have s_6 := Lib.hid hgBP.size
  have hgBX : Ext wBP (wBP.alloc (.cells #[.slice Ba1 P.orders.length Bc1, .slice Ba2 P.powers.length Bc2, .slice Ba3 P.conj.length Bc3] 31)) := World.grownBy_alloc _ _ _
  have hxB := Box3.made wBP 31 (.slice Ba1 P.orders.length Bc1) (.slice Ba2 P.powers.length Bc2) (.slice Ba3 P.conj.length Bc3)
  have sxB : (wBP.alloc (.cells #[.slice Ba1 P.orders.length Bc1, .slice Ba2 P.powers.length Bc2, .slice Ba3 P.conj.length Bc3] 31)).heap.size = wBP.heap.size + 1 := by simp
  have HxB := Lib.hid (And.intro hxB sxB); clear hxB sxB
  go_wp2_with fail
  generalize wBP.alloc (.cells #[.slice Ba1 P.orders.length Bc1, .slice Ba2 P.powers.length Bc2, .slice Ba3 P.conj.length Bc3] 31) = wBX at *
  have hxxB := HxB.out.1
  have sxB := Lib.hid HxB.out.2
  have a_7 := grown_trans a_6 hgBX
  have b_7 := b_6.ext hgBX
  have pB_7 := hqB.ext hgBX
  clear a_6 b_6 hqB
  have s_7 := Lib.hid hgBX.size
  refine Calls.mono (toInt64SS_ok _ U0 wBX S0 (Rows2.ext hu0 a_7) hsu0) ?_
  rintro eB0 wB0 ⟨vB0, rfl, hgB0, hO⟩
  have hyB0 : RowsD (fun k => wBX.heap.size ≤ k ∧ k < wB0.heap.size) wB0 vB0 U0 := rdRows.mono (SlO.toD hO (by omega)) (fun k h1 h2 => ⟨⟨h1, h2⟩, h2, rfl⟩)
  clear hO
  obtain ⟨yBa0, yBc0, hvy, _, _⟩ := SlD.shape hyB0; subst hvy
  have a_8 := grown_trans a_7 hgB0
  have b_8 := b_7.ext hgB0
  have pB_8 := pB_7.ext hgB0
  have xB_8 := hxxB.ext hgB0
  clear a_7 b_7 pB_7 hxxB
  have s_8 := Lib.hid hgB0.size
  obtain ⟨_, b0, b1, b2, _⟩ := id xB_8
  go_wp2_with fail
  clear b0 b1 b2
  refine Calls.mono (iMob_ok P wB0 _ _ U0 _ _ (PresW.v pB_8) (RowsD.rows hyB0)) ?_
  rintro eG wG ⟨vG, rfl, hgG, rfl⟩
  have a_9 := grown_trans a_8 hgG
  have b_9 := b_8.ext hgG
  have pB_9 := pB_8.ext hgG
  have xB_9 := xB_8.ext hgG
  have yB0_9 := rdRows.mono hyB0 (frame_ext hgG)
  clear a_8 b_8 pB_8 xB_8 hyB0
  have s_9 := Lib.hid hgG.size
  go_wp2_with fail
  have ha0 : ∀ w', Ext wG w' → w'.cell? ⟨w.heap.size, 0, none⟩ = some vo := fun w' h => (b_9.ext h).2.1
  have ha1 : ∀ w', Ext wG w' → w'.cell? ⟨w.heap.size, 1, none⟩ = some vp := fun w' h => (b_9.ext h).2.2.1
  have ha2 : ∀ w', Ext wG w' → w'.cell? ⟨w.heap.size, 2, none⟩ = some vc := fun w' h => (b_9.ext h).2.2.2.1
  have hx0 : ∀ w', Ext wG w' → w'.cell? ⟨wBP.heap.size, 0, none⟩ = some (.slice Ba1 P.orders.length Bc1) := fun w' h => (xB_9.ext h).2.1
  have hx1 : ∀ w', Ext wG w' → w'.cell? ⟨wBP.heap.size, 1, none⟩ = some (.slice Ba2 P.powers.length Bc2) := fun w' h => (xB_9.ext h).2.2.1
  have hx2 : ∀ w', Ext wG w' → w'.cell? ⟨wBP.heap.size, 2, none⟩ = some (.slice Ba3 P.conj.length Bc3) := fun w' h => (xB_9.ext h).2.2.2.1
  go_region_held3 (fun w' => Ext wG w') (first | exact grown_drew _ _ | assumption)
    (first
      | (go_at_call 18; refine Calls.mono (Calls.rel (w0 := wG) (by assumption) (toPresentation_ok _ P _ S ⟨_, _, _, rfl, Pres3.ext h3 (grown_trans a_9 (by assumption))⟩ hsz)) ?_; rintro e8 w8 ⟨v8, rfl, hg8, hs8, hp8⟩; obtain ⟨ya, yc, yb, yd, ye, yf, rfl⟩ := hp8.shape)
      | (go_at_call 21; refine Calls.mono (Calls.rel (w0 := wG) (by assumption) (eqPresentation_ok _ _ P _ _ _ (PresW.v (PresW.ext pB_9 (by assumption))) (PresW.v hp8))) ?_; rintro e9 w9 ⟨v9, rfl, hg9, hs9, rfl⟩))
  clear ha0 ha1 ha2 hx0 hx1 hx2 hp8 hg8
  have a_10 := grown_trans a_9 hg9
  have b_10 := b_9.ext hg9
  have pB_10 := pB_9.ext hg9
  have xB_10 := xB_9.ext hg9
  have yB0_10 := rdRows.mono yB0_9 (frame_ext hg9)
  clear a_9 b_9 pB_9 xB_9 yB0_9
  have s_10 := Lib.hid hg9.size
  go_wp2_with fail
  refine Calls.mono (toInt64SS_ok _ U0 w9 S0 (Rows2.ext hu0 a_10) hsu0) ?_
  rintro eC0 wC0 ⟨vC0, rfl, hgC0, hO⟩
  have hOD := SlO.toD hO (by omega)
  clear hO
  obtain ⟨za0, zc0, hvz, _, _⟩ := SlD.shape hOD; subst hvz
  have a_11 := grown_trans a_10 hgC0
  have b_11 := b_10.ext hgC0
  have pB_11 := pB_10.ext hgC0
  have xB_11 := xB_10.ext hgC0
  have yB0_11 := rdRows.mono yB0_10 (frame_ext hgC0)
  clear a_10 b_10 pB_10 xB_10 yB0_10
  have s_11 := Lib.hid hgC0.size
  go_wp2_with fail
  refine Calls.mono (eqInt64SS_ok _ _ _ _ wC0 _ _ (RowsD.rows yB0_11) (RowsD.rows hOD)) ?_
  rintro eD0 wD0 ⟨vD0, rfl, hgD0, rfl⟩
  clear hOD
  have hEU0 : eqB U0 U0 = true := eqB_true.2 rfl
  have a_12 := grown_trans a_11 hgD0
  have b_12 := b_11.ext hgD0
  have pB_12 := pB_11.ext hgD0
  have xB_12 := xB_11.ext hgD0
  have yB0_12 := rdRows.mono yB0_11 (frame_ext hgD0)
  clear a_11 b_11 pB_11 xB_11 yB0_11
  have s_12 := Lib.hid hgD0.size
  go_wp2
  go_ret
  exact ⟨_, rfl, a_12, rfl⟩

end Go.Proofs.YtigbpdaomgagiaaGreat
