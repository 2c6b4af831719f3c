/-
  laws.FnExactTableOfMarks: whatever the arguments, the law answers true. (Printed by gen_law.py.)
-/
import Derived.Test.YtdklekdpdbjfiaaGreatM9
import Derived.Test.YtdklekdpdbjfiaaGreatM6
import Derived.Test.YtdklekdpdbjfiaaGreatUTmW
import Derived.Test.YtdklekdpdbjfiaaGreatUTmS
namespace Go.Proofs.YtdklekdpdbjfiaaGreat
open Go.RowKit
set_option maxRecDepth 100000 in
set_option maxHeartbeats 32000000 in
theorem lawTm_ok (P : Pr) (w : World) (pv : Value) (S : Nat → Prop) (hpv : PresV S w pv P) :
  Calls Tryz.prog 14 #[pv] w (Ret w fun _ v => v = .bool true) := by
 obtain ⟨vo, vp, vc, rfl, h3⟩ := hpv
 have hg0 : Ext w (w.alloc (.cells #[vo, vp, vc] 26)) := World.grownBy_alloc _ _ _
 have hB := Box3.made w 26 vo vp vc
 have HB := Lib.hid hB; clear hB
 go_enter Tryz.func14, Tryz.ntmps14
 go_wp2_with fail
 generalize w.alloc (.cells #[vo, vp, vc] 26) = w0 at *
 have hbx := HB.out
 have s_b := Lib.hid hbx.1
 refine Calls.mono (szPresentation_ok _ P 1048576 _ S ⟨_, _, _, rfl, h3.ext hg0⟩ (by omega)) ?_
 rintro eA wA ⟨vA, rfl, hgA, ⟨hA, rfl⟩ | ⟨hA, rfl⟩⟩
 case inr =>
  go_wp2
  go_ret
  exact ⟨_, rfl, grown_trans hg0 hgA, rfl⟩
 have hsz : sizeP P ≤ 1048576 := by omega
 obtain ⟨l0, hl0⟩ : ∃ l0 : Int, l0 = 1048576 - (sizeP P : Nat) := ⟨_, rfl⟩
 rw [← hl0]
 have hb0 : 0 ≤ l0 ∧ l0 ≤ 1048576 := by omega
 have Hl0 := Lib.hid hl0; clear hl0 hA
 have hn0 : ¬ l0 < 0 := by omega
 have a_1 := grown_trans hg0 hgA
 have b_1 := hbx.ext hgA
 clear hg0 hbx
 have s_1 := Lib.hid hgA.size
 obtain ⟨_, b0, b1, b2, _⟩ := id b_1
 go_wp2_with fail
 clear b0 b1 b2
 refine Calls.mono (toPresentation_ok _ P wA S ⟨_, _, _, rfl, h3.ext a_1⟩ hsz) ?_
 rintro eAP wAP ⟨vAP, rfl, hgAP, hpA⟩
 have hqA : PresW (fun k => wA.heap.size ≤ k ∧ k < wAP.heap.size) wAP vAP P := hpA.mono (fun k hk hlt => ⟨⟨hk, hlt⟩, hlt, rfl⟩)
 obtain ⟨Aa1, Ac1, Aa2, Ac2, Aa3, Ac3, rfl⟩ := hpA.shape
 clear hpA
 have a_2 := grown_trans a_1 hgAP
 have b_2 := b_1.ext hgAP
 clear a_1 b_1
 have s_2 := Lib.hid hgAP.size
 go_wp2_with fail
 refine Calls.mono (sTm_ok P wAP _   _  (PresW.v hqA) ) ?_
 rintro eR wR ⟨vR, rfl, hgR, rRa, rRn, rRc, rfl, hR⟩
 clear hqA
 have a_3 := grown_trans a_2 hgR
 have b_3 := b_2.ext hgR
 clear a_2 b_2
 have s_3 := Lib.hid hgR.size
 have hr : Rows2 (fun k => k < wR.heap.size) wR (.slice rRa rRn rRc) (tmL P ) := Rows2.sub hR (fun k _ h => h)
 clear hR
 obtain ⟨_, b0, b1, b2, _⟩ := id b_3
 go_wp2_with fail
 clear b0 b1 b2
 refine Calls.mono (toPresentation_ok _ P wR S ⟨_, _, _, rfl, h3.ext a_3⟩ hsz) ?_
 rintro eBP wBP ⟨vBP, rfl, hgBP, hpB⟩
 have hqB : PresW (fun k => wR.heap.size ≤ k ∧ k < wBP.heap.size) wBP vBP P := hpB.mono (fun k hk hlt => ⟨⟨hk, hlt⟩, hlt, rfl⟩)
 obtain ⟨Ba1, Bc1, Ba2, Bc2, Ba3, Bc3, rfl⟩ := hpB.shape
 clear hpB
 have a_4 := grown_trans a_3 hgBP
 have b_4 := b_3.ext hgBP
 have r_4 := Rows2.ext hr hgBP
 clear a_3 b_3 hr
 have s_4 := Lib.hid hgBP.size
 have hgBX : Ext wBP (wBP.alloc (.cells #[.slice Ba1 P.orders.length Bc1, .slice Ba2 P.powers.length Bc2, .slice Ba3 P.conj.length Bc3] 31)) := World.grownBy_alloc _ _ _
 have hxB := Box3.made wBP 31 (.slice Ba1 P.orders.length Bc1) (.slice Ba2 P.powers.length Bc2) (.slice Ba3 P.conj.length Bc3)
 have sxB : (wBP.alloc (.cells #[.slice Ba1 P.orders.length Bc1, .slice Ba2 P.powers.length Bc2, .slice Ba3 P.conj.length Bc3] 31)).heap.size = wBP.heap.size + 1 := by simp
 have HxB := Lib.hid (And.intro hxB sxB); clear hxB sxB
 go_wp2_with fail
 generalize wBP.alloc (.cells #[.slice Ba1 P.orders.length Bc1, .slice Ba2 P.powers.length Bc2, .slice Ba3 P.conj.length Bc3] 31) = wBX at *
 have hxxB := HxB.out.1
 have sxB := Lib.hid HxB.out.2
 have a_5 := grown_trans a_4 hgBX
 have b_5 := b_4.ext hgBX
 have r_5 := Rows2.ext r_4 hgBX
 have pB_5 := hqB.ext hgBX
 clear a_4 b_4 r_4 hqB
 have s_5 := Lib.hid hgBX.size
 obtain ⟨_, b0, b1, b2, _⟩ := id hxxB
 go_wp2_with fail
 clear b0 b1 b2
 refine Calls.mono (iTm_ok P wBX _   _  (PresW.v pB_5) ) ?_
 rintro eG wG ⟨vG, rfl, hgG, rGa, rGn, rGc, rfl, hG⟩
 have a_6 := grown_trans a_5 hgG
 have b_6 := b_5.ext hgG
 have r_6 := Rows2.ext r_5 hgG
 have pB_6 := pB_5.ext hgG
 have xB_6 := hxxB.ext hgG
 clear a_5 b_5 r_5 pB_5 hxxB
 have s_6 := Lib.hid hgG.size
 have hg_ : RowsD (fun k => wBX.heap.size ≤ k ∧ k < wG.heap.size) wG (.slice rGa rGn rGc) (tmL P ) := rdRows.mono (SlO.toD hG (by have := tmL_len P ; omega)) (fun k h1 h2 => ⟨⟨h1, h2⟩, h2, rfl⟩)
 clear hG
 have hEV : eqB (tmL P ) (tmL P ) = true := eqB_true.2 rfl
 go_wp2_with fail
 refine Calls.mono (eqInt64SS_ok _ _ _ _ wG _ _ (RowsD.rows hg_) r_6) ?_
 rintro eH wH ⟨vH, rfl, hgH, rfl⟩
 have a_7 := grown_trans a_6 hgH
 have b_7 := b_6.ext hgH
 have r_7 := Rows2.ext r_6 hgH
 have pB_7 := pB_6.ext hgH
 have xB_7 := xB_6.ext hgH
 have g_7 := rdRows.mono hg_ (frame_ext hgH)
 clear a_6 b_6 r_6 pB_6 xB_6 hg_
 have s_7 := Lib.hid hgH.size
 go_wp2_with fail
 have ha0 : ∀ w', Ext wH w' → w'.cell? ⟨w.heap.size, 0, none⟩ = some vo := fun w' h => (b_7.ext h).2.1
 have ha1 : ∀ w', Ext wH w' → w'.cell? ⟨w.heap.size, 1, none⟩ = some vp := fun w' h => (b_7.ext h).2.2.1
 have ha2 : ∀ w', Ext wH w' → w'.cell? ⟨w.heap.size, 2, none⟩ = some vc := fun w' h => (b_7.ext h).2.2.2.1
 have hx0 : ∀ w', Ext wH w' → w'.cell? ⟨wBP.heap.size, 0, none⟩ = some (.slice Ba1 P.orders.length Bc1) := fun w' h => (xB_7.ext h).2.1
 have hx1 : ∀ w', Ext wH w' → w'.cell? ⟨wBP.heap.size, 1, none⟩ = some (.slice Ba2 P.powers.length Bc2) := fun w' h => (xB_7.ext h).2.2.1
 have hx2 : ∀ w', Ext wH w' → w'.cell? ⟨wBP.heap.size, 2, none⟩ = some (.slice Ba3 P.conj.length Bc3) := fun w' h => (xB_7.ext h).2.2.2.1
 go_region_held3 (fun w' => Ext wH w') (first | exact grown_drew _ _ | assumption)
  (first
   | (go_at_call 18; refine Calls.mono (Calls.rel (w0 := wH) (by assumption) (toPresentation_ok _ P _ S ⟨_, _, _, rfl, Pres3.ext h3 (grown_trans a_7 (by assumption))⟩ hsz)) ?_; rintro e8 w8 ⟨v8, rfl, hg8, hs8, hp8⟩; obtain ⟨ya, yc, yb, yd, ye, yf, rfl⟩ := hp8.shape)
   | (go_at_call 21; refine Calls.mono (Calls.rel (w0 := wH) (by assumption) (eqPresentation_ok _ _ P _ _ _ (PresW.v (PresW.ext pB_7 (by assumption))) (PresW.v hp8))) ?_; rintro e9 w9 ⟨v9, rfl, hg9, hs9, rfl⟩))
 clear ha0 ha1 ha2 hx0 hx1 hx2 hp8 hg8
 have a_8 := grown_trans a_7 hg9
 have b_8 := b_7.ext hg9
 have r_8 := Rows2.ext r_7 hg9
 have pB_8 := pB_7.ext hg9
 have xB_8 := xB_7.ext hg9
 have g_8 := rdRows.mono g_7 (frame_ext hg9)
 clear a_7 b_7 r_7 pB_7 xB_7 g_7
 have s_8 := Lib.hid hg9.size
 obtain ⟨_, c0, c1, c2, _⟩ := id xB_8
 go_wp2_with fail
 clear c0 c1 c2
 refine Calls.mono (markPresentationB_ok _ P w9 _ pB_8 hsz) ?_
 rintro eM wM ⟨q0, hq0, rfl, hTM⟩
 clear pB_8 xB_8
 have sb_9 := Lib.hid b_8.1
 have a_9 := Touch.ext a_8 hTM (fun k hk => by have := s_b.out; have := s_1.out; have := s_2.out; have := s_3.out; have := s_4.out; have := sxB.out; have := s_5.out; have := s_6.out; have := s_7.out; have := s_8.out; have := sb_9.out; omega)
 have b_9 := b_8.keep hTM.size (hTM.block _ b_8.1 (fun h => by have := s_b.out; have := s_1.out; have := s_2.out; have := s_3.out; have := s_4.out; have := sxB.out; have := s_5.out; have := s_6.out; have := s_7.out; have := s_8.out; have := sb_9.out; omega))
 have r_9 := Rows2.mono r_8 (hTM.frame (fun k hk h => by have := s_b.out; have := s_1.out; have := s_2.out; have := s_3.out; have := s_4.out; have := sxB.out; have := s_5.out; have := s_6.out; have := s_7.out; have := s_8.out; have := sb_9.out; omega))
 have g_9 := rdRows.mono g_8 (hTM.frame (fun k hk h => by have := s_b.out; have := s_1.out; have := s_2.out; have := s_3.out; have := s_4.out; have := sxB.out; have := s_5.out; have := s_6.out; have := s_7.out; have := s_8.out; have := sb_9.out; omega))
 clear a_8 b_8 r_8 g_8
 have s_9 := Lib.hid hTM.size
 have hqn : ¬ q0 < 0 := by omega
 go_wp2_with fail
 refine Calls.mono (eqInt64SS_ok _ _ _ _ wM _ _ (RowsD.rows g_9) r_9) ?_
 rintro eI wI ⟨vI, rfl, hgI, rfl⟩
 have a_10 := grown_trans a_9 hgI
 have b_10 := b_9.ext hgI
 have r_10 := Rows2.ext r_9 hgI
 have g_10 := rdRows.mono g_9 (frame_ext hgI)
 clear a_9 b_9 r_9 g_9
 have s_10 := Lib.hid hgI.size
 have hbt : tot2 (tmL P ) ≤ 100000000 := Nat.le_trans (tmL_tot P) (by decide)
 have Hbt := Lib.hid hbt; clear hbt
 go_wp2_with fail
 refine Calls.mono (markInt64SS_ok _ (tmL P ) 1 wI _ g_10 ⟨by omega, by have := Hbt.out; omega⟩) ?_
 rintro eO wO ⟨rfl, hTO, hgO⟩
 clear g_10
 have sb_11 := Lib.hid b_10.1
 have a_11 := Touch.ext a_10 hTO (fun k hk => by have := s_b.out; have := s_1.out; have := s_2.out; have := s_3.out; have := s_4.out; have := sxB.out; have := s_5.out; have := s_6.out; have := s_7.out; have := s_8.out; have := sb_9.out; have := s_9.out; have := s_10.out; have := sb_11.out; omega)
 have b_11 := b_10.keep hTO.size (hTO.block _ b_10.1 (fun h => by have := s_b.out; have := s_1.out; have := s_2.out; have := s_3.out; have := s_4.out; have := sxB.out; have := s_5.out; have := s_6.out; have := s_7.out; have := s_8.out; have := sb_9.out; have := s_9.out; have := s_10.out; have := sb_11.out; omega))
 have r_11 := Rows2.mono r_10 (hTO.frame (fun k hk h => by have := s_b.out; have := s_1.out; have := s_2.out; have := s_3.out; have := s_4.out; have := sxB.out; have := s_5.out; have := s_6.out; have := s_7.out; have := s_8.out; have := sb_9.out; have := s_9.out; have := s_10.out; have := sb_11.out; omega))
 clear a_10 b_10 r_10
 have s_11 := Lib.hid hTO.size
 obtain ⟨tt, htt⟩ : ∃ tt : Int, tt = (tot2 (tmL P ) : Nat) := ⟨_, rfl⟩
 have htb : 0 ≤ tt ∧ tt ≤ 100000000 := by have := Hbt.out; omega
 rw [← htt]
 have hk1 : ¬ (1 + tt < 0) := by omega
 go_wp2_with fail
 refine Calls.mono (heldInt64SS_ok _ (tmL P ) 1 wO _ (RowsD.rows hgO) ⟨by omega, by have := Hbt.out; omega⟩) ?_
 rintro eQ wQ ⟨vQ, rfl, hgQ, rfl⟩
 rw [← htt]
 have a_12 := grown_trans a_11 hgQ
 have b_12 := b_11.ext hgQ
 have r_12 := Rows2.ext r_11 hgQ
 have g_12 := rdRows.mono hgO (frame_ext hgQ)
 clear a_11 b_11 r_11 hgO
 have s_12 := Lib.hid hgQ.size
 obtain ⟨_, b0, b1, b2, _⟩ := id b_12
 go_wp2_with fail
 clear b0 b1 b2
 refine Calls.mono (toPresentation_ok _ P wQ S ⟨_, _, _, rfl, h3.ext a_12⟩ hsz) ?_
 rintro eEP wEP ⟨vEP, rfl, hgEP, hpE⟩
 have hqE : PresW (fun k => wQ.heap.size ≤ k ∧ k < wEP.heap.size) wEP vEP P := hpE.mono (fun k hk hlt => ⟨⟨hk, hlt⟩, hlt, rfl⟩)
 obtain ⟨Ea1, Ec1, Ea2, Ec2, Ea3, Ec3, rfl⟩ := hpE.shape
 clear hpE
 have a_13 := grown_trans a_12 hgEP
 have b_13 := b_12.ext hgEP
 have r_13 := Rows2.ext r_12 hgEP
 have g_13 := rdRows.mono g_12 (frame_ext hgEP)
 clear a_12 b_12 r_12 g_12
 have s_13 := Lib.hid hgEP.size
 go_wp2_with fail
 refine Calls.mono (iTm_ok P wEP _   _  (PresW.v hqE) ) ?_
 rintro eK wK ⟨vK, rfl, hgK, rKa, rKn, rKc, rfl, hK⟩
 clear hqE
 have a_14 := grown_trans a_13 hgK
 have b_14 := b_13.ext hgK
 have r_14 := Rows2.ext r_13 hgK
 have g_14 := rdRows.mono g_13 (frame_ext hgK)
 clear a_13 b_13 r_13 g_13
 have s_14 := Lib.hid hgK.size
 have hKD := RowsD.rows (SlO.toD hK (by have := tmL_len P ; omega))
 clear hK
 go_wp2_with fail
 refine Calls.mono (eqInt64SS_ok _ _ _ _ wK _ _ hKD r_14) ?_
 rintro eS wS ⟨vS, rfl, hgS, rfl⟩
 clear hKD
 have a_15 := grown_trans a_14 hgS
 have b_15 := b_14.ext hgS
 have r_15 := Rows2.ext r_14 hgS
 have g_15 := rdRows.mono g_14 (frame_ext hgS)
 clear a_14 b_14 r_14 g_14
 have s_15 := Lib.hid hgS.size
 go_wp2_with fail
 refine Calls.mono (heldInt64SS_ok _ (tmL P ) 1 wS _ (RowsD.rows g_15) ⟨by omega, by have := Hbt.out; omega⟩) ?_
 rintro eT wT ⟨vT, rfl, hgT, rfl⟩
 rw [← htt]
 have a_16 := grown_trans a_15 hgT
 have b_16 := b_15.ext hgT
 have r_16 := Rows2.ext r_15 hgT
 have g_16 := rdRows.mono g_15 (frame_ext hgT)
 clear a_15 b_15 r_15 g_15
 have s_16 := Lib.hid hgT.size
 go_wp2
 go_ret
 exact ⟨_, rfl, a_16, rfl⟩
end Go.Proofs.YtdklekdpdbjfiaaGreat
