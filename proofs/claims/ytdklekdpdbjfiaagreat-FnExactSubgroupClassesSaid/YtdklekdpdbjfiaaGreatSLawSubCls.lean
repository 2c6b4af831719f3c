/-
  laws.FnExactSubgroupClasses: whatever the arguments, the law answers true. (Printed by gen_law.py.)
-/
import Derived.Test.YtdklekdpdbjfiaaGreatK2
import Derived.Test.YtdklekdpdbjfiaaGreatSSubCls
import Derived.Test.YtdklekdpdbjfiaaGreatK9
namespace Go.Proofs.YtdklekdpdbjfiaaGreat
open Go.RowKit

set_option maxRecDepth 100000 in
set_option maxHeartbeats 32000000 in
theorem lawSubCls_ok (P : Pr) (w : World) (pv : Value) (S : Nat → Prop) (hpv : PresV S w pv P) :
    Calls Tryz.prog 7 #[pv] w (Ret w fun _ v => v = .bool true) := by
  obtain ⟨vo, vp, vc, rfl, h3⟩ := hpv
  have hg0 : Ext w (w.alloc (.cells #[vo, vp, vc] 26)) := World.grownBy_alloc _ _ _
  have hB := Box3.made w 26 vo vp vc
  have HB := Lib.hid hB; clear hB
  go_enter Tryz.func7, Tryz.ntmps7
  go_wp2_with fail
  generalize w.alloc (.cells #[vo, vp, vc] 26) = w0 at *
  have hbx := HB.out
  have s_b := Lib.hid hbx.1
  refine Calls.mono (szPresentation_ok _ P 1048576 _ S ⟨_, _, _, rfl, h3.ext hg0⟩ (by omega)) ?_
  rintro eA wA ⟨vA, rfl, hgA, ⟨hA, rfl⟩ | ⟨hA, rfl⟩⟩
  case inr =>
    go_wp2
    go_ret
    exact ⟨_, rfl, grown_trans hg0 hgA, rfl⟩
  have hsz : sizeP P ≤ 1048576 := by omega
  obtain ⟨l0, hl0⟩ : ∃ l0 : Int, l0 = 1048576 - (sizeP P : Nat) := ⟨_, rfl⟩
  rw [← hl0]
  have hb0 : 0 ≤ l0 ∧ l0 ≤ 1048576 := by omega
  have Hl0 := Lib.hid hl0; clear hl0 hA
  have hn0 : ¬ l0 < 0 := by omega
  have a_1 := grown_trans hg0 hgA
  have b_1 := hbx.ext hgA
  clear hg0 hbx
  have s_1 := Lib.hid hgA.size
  obtain ⟨_, b0, b1, b2, _⟩ := id b_1
  go_wp2_with fail
  clear b0 b1 b2
  refine Calls.mono (toPresentation_ok _ P wA S ⟨_, _, _, rfl, h3.ext a_1⟩ hsz) ?_
  rintro eAP wAP ⟨vAP, rfl, hgAP, hpA⟩
  have hqA : PresW (fun k => wA.heap.size ≤ k ∧ k < wAP.heap.size) wAP vAP P := hpA.mono (fun k hk hlt => ⟨⟨hk, hlt⟩, hlt, rfl⟩)
  obtain ⟨Aa1, Ac1, Aa2, Ac2, Aa3, Ac3, rfl⟩ := hpA.shape
  clear hpA
  have a_2 := grown_trans a_1 hgAP
  have b_2 := b_1.ext hgAP
  clear a_1 b_1
  have s_2 := Lib.hid hgAP.size
  go_wp2_with fail
  refine Calls.mono (sSc_ok P wAP _   _  (PresW.v hqA) ) ?_
  rintro eR wR ⟨vR, rfl, hgR, rRa, rRn, rRc, zRa, zRn, zRc, rfl, hR, hzR⟩
  clear hqA
  have a_3 := grown_trans a_2 hgR
  have b_3 := b_2.ext hgR
  clear a_2 b_2
  have s_3 := Lib.hid hgR.size
  have hr : Rows3 (fun k => k < wR.heap.size) wR (.slice rRa rRn rRc) (clsF P ) := Rows3.sub hR (fun k _ h => h)
  clear hR
  have hrz : Ints (fun k => k < wR.heap.size) wR (.slice zRa zRn zRc) (clsZ P ) := Ints.sub hzR (fun k _ h => h)
  clear hzR
  obtain ⟨_, b0, b1, b2, _⟩ := id b_3
  go_wp2_with fail
  clear b0 b1 b2
  refine Calls.mono (toPresentation_ok _ P wR S ⟨_, _, _, rfl, h3.ext a_3⟩ hsz) ?_
  rintro eBP wBP ⟨vBP, rfl, hgBP, hpB⟩
  have hqB : PresW (fun k => wR.heap.size ≤ k ∧ k < wBP.heap.size) wBP vBP P := hpB.mono (fun k hk hlt => ⟨⟨hk, hlt⟩, hlt, rfl⟩)
  obtain ⟨Ba1, Bc1, Ba2, Bc2, Ba3, Bc3, rfl⟩ := hpB.shape
  clear hpB
  have a_4 := grown_trans a_3 hgBP
  have b_4 := b_3.ext hgBP
  have r_4 := Rows3.ext hr hgBP
  have rz_4 := Ints.ext hrz hgBP
  clear a_3 b_3 hr hrz
  have s_4 := Lib.hid hgBP.size
  have hgBX : Ext wBP (wBP.alloc (.cells #[.slice Ba1 P.orders.length Bc1, .slice Ba2 P.powers.length Bc2, .slice Ba3 P.conj.length Bc3] 31)) := World.grownBy_alloc _ _ _
  have hxB := Box3.made wBP 31 (.slice Ba1 P.orders.length Bc1) (.slice Ba2 P.powers.length Bc2) (.slice Ba3 P.conj.length Bc3)
  have sxB : (wBP.alloc (.cells #[.slice Ba1 P.orders.length Bc1, .slice Ba2 P.powers.length Bc2, .slice Ba3 P.conj.length Bc3] 31)).heap.size = wBP.heap.size + 1 := by simp
  have HxB := Lib.hid (And.intro hxB sxB); clear hxB sxB
  go_wp2_with fail
  generalize wBP.alloc (.cells #[.slice Ba1 P.orders.length Bc1, .slice Ba2 P.powers.length Bc2, .slice Ba3 P.conj.length Bc3] 31) = wBX at *
  have hxxB := HxB.out.1
  have sxB := Lib.hid HxB.out.2
  have a_5 := grown_trans a_4 hgBX
  have b_5 := b_4.ext hgBX
  have r_5 := Rows3.ext r_4 hgBX
  have rz_5 := Ints.ext rz_4 hgBX
  have pB_5 := hqB.ext hgBX
  clear a_4 b_4 r_4 rz_4 hqB
  have s_5 := Lib.hid hgBX.size
  obtain ⟨_, b0, b1, b2, _⟩ := id hxxB
  go_wp2_with fail
  clear b0 b1 b2
  refine Calls.mono (iSc_ok P wBX _   _  (PresW.v pB_5) ) ?_
  rintro eG wG ⟨vG, rfl, hgG, rGa, rGn, rGc, zGa, zGn, zGc, rfl, hG, hzG⟩
  have a_6 := grown_trans a_5 hgG
  have b_6 := b_5.ext hgG
  have r_6 := Rows3.ext r_5 hgG
  have rz_6 := Ints.ext rz_5 hgG
  have pB_6 := pB_5.ext hgG
  have xB_6 := hxxB.ext hgG
  clear a_5 b_5 r_5 rz_5 pB_5 hxxB
  have s_6 := Lib.hid hgG.size
  have hgz : OwnIn (fun k => (wBX.heap.size ≤ k ∧ k < wG.heap.size) ∧ (Value.slice zGa zGn zGc).ownBlock = some k) wG (.slice zGa zGn zGc) (clsZ P ) := ⟨hzG.weak (Nat.zero_le _), fun k hk => ⟨hzG.lt k hk, hk⟩, by have := clsZ_len P ; omega⟩
  have hg_ : Rows3D (fun k => (wBX.heap.size ≤ k ∧ k < wG.heap.size) ∧ ¬ (Value.slice zGa zGn zGc).ownBlock = some k) wG (.slice rGa rGn rGc) (clsF P ) := rdRows3.mono (SlOA.toD hG (by have := clsF_len P ; omega)) (fun k h1 h2 => ⟨⟨⟨h1.1, h2⟩, h1.2⟩, h2, rfl⟩)
  clear hG hzG
  have hEZ : eqB (clsZ P ) (clsZ P ) = true := eqB_true.2 rfl
  have hEV : eqB (clsF P ) (clsF P ) = true := eqB_true.2 rfl
  go_wp2_with fail
  refine Calls.mono (eqInt64SSS_ok _ _ _ _ wG _ _ (Rows3D.rows hg_) r_6) ?_
  rintro eH wH ⟨vH, rfl, hgH, rfl⟩
  have a_7 := grown_trans a_6 hgH
  have b_7 := b_6.ext hgH
  have r_7 := Rows3.ext r_6 hgH
  have rz_7 := Ints.ext rz_6 hgH
  have pB_7 := pB_6.ext hgH
  have xB_7 := xB_6.ext hgH
  have g_7 := rdRows3.mono hg_ (frame_ext hgH)
  have gz_7 := rdOwn.mono hgz (frame_ext hgH)
  clear a_6 b_6 r_6 rz_6 pB_6 xB_6 hg_ hgz
  have s_7 := Lib.hid hgH.size
  go_wp2_with fail
  refine Calls.mono (eqInt64S_ok _ _ _ _ wH _ _ gz_7.ints rz_7) ?_
  rintro ey1 wy1 ⟨vy1, rfl, hgy1, rfl⟩
  have a_8 := grown_trans a_7 hgy1
  have b_8 := b_7.ext hgy1
  have r_8 := Rows3.ext r_7 hgy1
  have rz_8 := Ints.ext rz_7 hgy1
  have pB_8 := pB_7.ext hgy1
  have xB_8 := xB_7.ext hgy1
  have g_8 := rdRows3.mono g_7 (frame_ext hgy1)
  have gz_8 := rdOwn.mono gz_7 (frame_ext hgy1)
  clear a_7 b_7 r_7 rz_7 pB_7 xB_7 g_7 gz_7
  have s_8 := Lib.hid hgy1.size
  go_wp2_with fail
  have ha0 : ∀ w', Ext wy1 w' → w'.cell? ⟨w.heap.size, 0, none⟩ = some vo := fun w' h => (b_8.ext h).2.1
  have ha1 : ∀ w', Ext wy1 w' → w'.cell? ⟨w.heap.size, 1, none⟩ = some vp := fun w' h => (b_8.ext h).2.2.1
  have ha2 : ∀ w', Ext wy1 w' → w'.cell? ⟨w.heap.size, 2, none⟩ = some vc := fun w' h => (b_8.ext h).2.2.2.1
  have hx0 : ∀ w', Ext wy1 w' → w'.cell? ⟨wBP.heap.size, 0, none⟩ = some (.slice Ba1 P.orders.length Bc1) := fun w' h => (xB_8.ext h).2.1
  have hx1 : ∀ w', Ext wy1 w' → w'.cell? ⟨wBP.heap.size, 1, none⟩ = some (.slice Ba2 P.powers.length Bc2) := fun w' h => (xB_8.ext h).2.2.1
  have hx2 : ∀ w', Ext wy1 w' → w'.cell? ⟨wBP.heap.size, 2, none⟩ = some (.slice Ba3 P.conj.length Bc3) := fun w' h => (xB_8.ext h).2.2.2.1
  go_region_held3 (fun w' => Ext wy1 w') (first | exact grown_drew _ _ | assumption)
    (first
      | (go_at_call 18; refine Calls.mono (Calls.rel (w0 := wy1) (by assumption) (toPresentation_ok _ P _ S ⟨_, _, _, rfl, Pres3.ext h3 (grown_trans a_8 (by assumption))⟩ hsz)) ?_; rintro e8 w8 ⟨v8, rfl, hg8, hs8, hp8⟩; obtain ⟨ya, yc, yb, yd, ye, yf, rfl⟩ := hp8.shape)
      | (go_at_call 21; refine Calls.mono (Calls.rel (w0 := wy1) (by assumption) (eqPresentation_ok _ _ P _ _ _ (PresW.v (PresW.ext pB_8 (by assumption))) (PresW.v hp8))) ?_; rintro e9 w9 ⟨v9, rfl, hg9, hs9, rfl⟩))
  clear ha0 ha1 ha2 hx0 hx1 hx2 hp8 hg8
  have a_9 := grown_trans a_8 hg9
  have b_9 := b_8.ext hg9
  have r_9 := Rows3.ext r_8 hg9
  have rz_9 := Ints.ext rz_8 hg9
  have pB_9 := pB_8.ext hg9
  have xB_9 := xB_8.ext hg9
  have g_9 := rdRows3.mono g_8 (frame_ext hg9)
  have gz_9 := rdOwn.mono gz_8 (frame_ext hg9)
  clear a_8 b_8 r_8 rz_8 pB_8 xB_8 g_8 gz_8
  have s_9 := Lib.hid hg9.size
  obtain ⟨_, c0, c1, c2, _⟩ := id xB_9
  go_wp2_with fail
  clear c0 c1 c2 
  refine Calls.mono (markPresentationB_ok _ P w9 _ pB_9 hsz) ?_
  rintro eM wM ⟨q0, hq0, rfl, hTM⟩
  clear pB_9 xB_9
  have sb_10 := Lib.hid b_9.1
  have a_10 := Touch.ext a_9 hTM (fun k hk => by have := s_b.out; have := s_1.out; have := s_2.out; have := s_3.out; have := s_4.out; have := sxB.out; have := s_5.out; have := s_6.out; have := s_7.out; have := s_8.out; have := s_9.out; have := sb_10.out; omega)
  have b_10 := b_9.keep hTM.size (hTM.block _ b_9.1 (fun h => by have := s_b.out; have := s_1.out; have := s_2.out; have := s_3.out; have := s_4.out; have := sxB.out; have := s_5.out; have := s_6.out; have := s_7.out; have := s_8.out; have := s_9.out; have := sb_10.out; omega))
  have r_10 := Rows3.mono r_9 (hTM.frame (fun k hk h => by have := s_b.out; have := s_1.out; have := s_2.out; have := s_3.out; have := s_4.out; have := sxB.out; have := s_5.out; have := s_6.out; have := s_7.out; have := s_8.out; have := s_9.out; have := sb_10.out; omega))
  have rz_10 := Ints.mono rz_9 (hTM.frame (fun k hk h => by have := s_b.out; have := s_1.out; have := s_2.out; have := s_3.out; have := s_4.out; have := sxB.out; have := s_5.out; have := s_6.out; have := s_7.out; have := s_8.out; have := s_9.out; have := sb_10.out; omega))
  have g_10 := rdRows3.mono g_9 (hTM.frame (fun k hk h => by have := s_b.out; have := s_1.out; have := s_2.out; have := s_3.out; have := s_4.out; have := sxB.out; have := s_5.out; have := s_6.out; have := s_7.out; have := s_8.out; have := s_9.out; have := sb_10.out; omega))
  have gz_10 := rdOwn.mono gz_9 (hTM.frame (fun k hk h => by have := s_b.out; have := s_1.out; have := s_2.out; have := s_3.out; have := s_4.out; have := sxB.out; have := s_5.out; have := s_6.out; have := s_7.out; have := s_8.out; have := s_9.out; have := sb_10.out; omega))
  clear a_9 b_9 r_9 rz_9 g_9 gz_9
  have s_10 := Lib.hid hTM.size
  have hqn : ¬ q0 < 0 := by omega
  go_wp2_with fail
  refine Calls.mono (eqInt64SSS_ok _ _ _ _ wM _ _ (Rows3D.rows g_10) r_10) ?_
  rintro eI wI ⟨vI, rfl, hgI, rfl⟩
  have a_11 := grown_trans a_10 hgI
  have b_11 := b_10.ext hgI
  have r_11 := Rows3.ext r_10 hgI
  have rz_11 := Ints.ext rz_10 hgI
  have g_11 := rdRows3.mono g_10 (frame_ext hgI)
  have gz_11 := rdOwn.mono gz_10 (frame_ext hgI)
  clear a_10 b_10 r_10 rz_10 g_10 gz_10
  have s_11 := Lib.hid hgI.size
  go_wp2_with fail
  refine Calls.mono (eqInt64S_ok _ _ _ _ wI _ _ gz_11.ints rz_11) ?_
  rintro ey2 wy2 ⟨vy2, rfl, hgy2, rfl⟩
  have a_12 := grown_trans a_11 hgy2
  have b_12 := b_11.ext hgy2
  have r_12 := Rows3.ext r_11 hgy2
  have rz_12 := Ints.ext rz_11 hgy2
  have g_12 := rdRows3.mono g_11 (frame_ext hgy2)
  have gz_12 := rdOwn.mono gz_11 (frame_ext hgy2)
  clear a_11 b_11 r_11 rz_11 g_11 gz_11
  have s_12 := Lib.hid hgy2.size
  have hbt : tot3 (clsF P ) ≤ 100000000 := clsF_tot P 
  have Hbt := Lib.hid hbt; clear hbt
  go_wp2_with fail
  refine Calls.mono (markInt64SSS_ok _ (clsF P ) 1 wy2 _ g_12 ⟨by omega, by have := Hbt.out; omega⟩) ?_
  rintro eO wO ⟨rfl, hTO, hgO⟩
  clear g_12
  have sb_13 := Lib.hid b_12.1
  have a_13 := Touch.ext a_12 hTO (fun k hk => by have := s_b.out; have := s_1.out; have := s_2.out; have := s_3.out; have := s_4.out; have := sxB.out; have := s_5.out; have := s_6.out; have := s_7.out; have := s_8.out; have := s_9.out; have := sb_10.out; have := s_10.out; have := s_11.out; have := s_12.out; have := sb_13.out; omega)
  have b_13 := b_12.keep hTO.size (hTO.block _ b_12.1 (fun h => by have := s_b.out; have := s_1.out; have := s_2.out; have := s_3.out; have := s_4.out; have := sxB.out; have := s_5.out; have := s_6.out; have := s_7.out; have := s_8.out; have := s_9.out; have := sb_10.out; have := s_10.out; have := s_11.out; have := s_12.out; have := sb_13.out; omega))
  have r_13 := Rows3.mono r_12 (hTO.frame (fun k hk h => by have := s_b.out; have := s_1.out; have := s_2.out; have := s_3.out; have := s_4.out; have := sxB.out; have := s_5.out; have := s_6.out; have := s_7.out; have := s_8.out; have := s_9.out; have := sb_10.out; have := s_10.out; have := s_11.out; have := s_12.out; have := sb_13.out; omega))
  have rz_13 := Ints.mono rz_12 (hTO.frame (fun k hk h => by have := s_b.out; have := s_1.out; have := s_2.out; have := s_3.out; have := s_4.out; have := sxB.out; have := s_5.out; have := s_6.out; have := s_7.out; have := s_8.out; have := s_9.out; have := sb_10.out; have := s_10.out; have := s_11.out; have := s_12.out; have := sb_13.out; omega))
  have gz_13 := rdOwn.mono gz_12 (hTO.frame (fun k hk h => absurd hk.2 h.2))
  clear a_12 b_12 r_12 rz_12 gz_12
  have s_13 := Lib.hid hTO.size
  obtain ⟨tt, htt⟩ : ∃ tt : Int, tt = (tot3 (clsF P ) : Nat) := ⟨_, rfl⟩
  have htb : 0 ≤ tt ∧ tt ≤ 100000000 := by have := Hbt.out; omega
  rw [← htt]
  have hk1 : ¬ (1 + tt < 0) := by omega
  have hlz := clsZ_len P 
  obtain ⟨nz, hnz⟩ : ∃ nz : Nat, nz = (clsZ P ).length := ⟨_, rfl⟩
  rw [← hnz] at hlz
  have Hnz := Lib.hid hnz; clear hnz
  have Htt := Lib.hid htt; clear htt
  have hk2 : ¬ (1 + tt + (nz : Int) < 0) := by omega
  go_wp2_with fail
  have hlz2 : (((clsZ P ).length : Nat) : Int) ≤ 17408 := by rw [← Hnz.out]; omega
  refine Calls.mono (markInt64S_ok _ (clsZ P ) (1 + tt) wO _ gz_13 ⟨by omega, by omega⟩) ?_
  rintro eV wV ⟨rfl, hTV, hgV⟩
  clear hlz2
  rw [← Hnz.out] at hgV ⊢
  clear gz_13
  have sb_14 := Lib.hid b_13.1
  have a_14 := Touch.ext a_13 hTV (fun k hk => by have := s_b.out; have := s_1.out; have := s_2.out; have := s_3.out; have := s_4.out; have := sxB.out; have := s_5.out; have := s_6.out; have := s_7.out; have := s_8.out; have := s_9.out; have := sb_10.out; have := s_10.out; have := s_11.out; have := s_12.out; have := sb_13.out; have := s_13.out; have := sb_14.out; omega)
  have b_14 := b_13.keep hTV.size (hTV.block _ b_13.1 (fun h => by have := s_b.out; have := s_1.out; have := s_2.out; have := s_3.out; have := s_4.out; have := sxB.out; have := s_5.out; have := s_6.out; have := s_7.out; have := s_8.out; have := s_9.out; have := sb_10.out; have := s_10.out; have := s_11.out; have := s_12.out; have := sb_13.out; have := s_13.out; have := sb_14.out; omega))
  have r_14 := Rows3.mono r_13 (hTV.frame (fun k hk h => by have := s_b.out; have := s_1.out; have := s_2.out; have := s_3.out; have := s_4.out; have := sxB.out; have := s_5.out; have := s_6.out; have := s_7.out; have := s_8.out; have := s_9.out; have := sb_10.out; have := s_10.out; have := s_11.out; have := s_12.out; have := sb_13.out; have := s_13.out; have := sb_14.out; omega))
  have rz_14 := Ints.mono rz_13 (hTV.frame (fun k hk h => by have := s_b.out; have := s_1.out; have := s_2.out; have := s_3.out; have := s_4.out; have := sxB.out; have := s_5.out; have := s_6.out; have := s_7.out; have := s_8.out; have := s_9.out; have := sb_10.out; have := s_10.out; have := s_11.out; have := s_12.out; have := sb_13.out; have := s_13.out; have := sb_14.out; omega))
  have g_14 := rdRows3.mono hgO (hTV.frame (fun k hk h => absurd h.2 hk.2))
  clear a_13 b_13 r_13 rz_13 hgO
  have s_14 := Lib.hid hTV.size
  go_wp2_with fail
  refine Calls.mono (heldInt64SSS_ok _ (clsF P ) 1 wV _ (Rows3D.rows g_14) ⟨by omega, by have := Hbt.out; omega⟩) ?_
  rintro eQ wQ ⟨vQ, rfl, hgQ, rfl⟩
  rw [← Htt.out]
  have a_15 := grown_trans a_14 hgQ
  have b_15 := b_14.ext hgQ
  have r_15 := Rows3.ext r_14 hgQ
  have rz_15 := Ints.ext rz_14 hgQ
  have g_15 := rdRows3.mono g_14 (frame_ext hgQ)
  have gz_15 := rdOwn.mono hgV (frame_ext hgQ)
  clear a_14 b_14 r_14 rz_14 g_14 hgV
  have s_15 := Lib.hid hgQ.size
  go_wp2_with fail
  refine Calls.mono (heldInt64S_ok _ nz (1 + tt) wQ _ gz_15.ints ⟨by omega, by omega⟩) ?_
  rintro eU wU ⟨vU, rfl, hgU, rfl⟩
  have a_16 := grown_trans a_15 hgU
  have b_16 := b_15.ext hgU
  have r_16 := Rows3.ext r_15 hgU
  have rz_16 := Ints.ext rz_15 hgU
  have g_16 := rdRows3.mono g_15 (frame_ext hgU)
  have gz_16 := rdOwn.mono gz_15 (frame_ext hgU)
  clear a_15 b_15 r_15 rz_15 g_15 gz_15
  have s_16 := Lib.hid hgU.size
  obtain ⟨_, b0, b1, b2, _⟩ := id b_16
  go_wp2_with fail
  clear b0 b1 b2
  refine Calls.mono (toPresentation_ok _ P wU S ⟨_, _, _, rfl, h3.ext a_16⟩ hsz) ?_
  rintro eEP wEP ⟨vEP, rfl, hgEP, hpE⟩
  have hqE : PresW (fun k => wU.heap.size ≤ k ∧ k < wEP.heap.size) wEP vEP P := hpE.mono (fun k hk hlt => ⟨⟨hk, hlt⟩, hlt, rfl⟩)
  obtain ⟨Ea1, Ec1, Ea2, Ec2, Ea3, Ec3, rfl⟩ := hpE.shape
  clear hpE
  have a_17 := grown_trans a_16 hgEP
  have b_17 := b_16.ext hgEP
  have r_17 := Rows3.ext r_16 hgEP
  have rz_17 := Ints.ext rz_16 hgEP
  have g_17 := rdRows3.mono g_16 (frame_ext hgEP)
  have gz_17 := rdOwn.mono gz_16 (frame_ext hgEP)
  clear a_16 b_16 r_16 rz_16 g_16 gz_16
  have s_17 := Lib.hid hgEP.size
  go_wp2_with fail
  refine Calls.mono (iSc_ok P wEP _   _  (PresW.v hqE) ) ?_
  rintro eK wK ⟨vK, rfl, hgK, rKa, rKn, rKc, zKa, zKn, zKc, rfl, hK, hzK⟩
  clear hqE
  have a_18 := grown_trans a_17 hgK
  have b_18 := b_17.ext hgK
  have r_18 := Rows3.ext r_17 hgK
  have rz_18 := Ints.ext rz_17 hgK
  have g_18 := rdRows3.mono g_17 (frame_ext hgK)
  have gz_18 := rdOwn.mono gz_17 (frame_ext hgK)
  clear a_17 b_17 r_17 rz_17 g_17 gz_17
  have s_18 := Lib.hid hgK.size
  have hKD := Rows3D.rows (SlO.toD hK.o (by have := clsF_len P ; omega))
  have hKZ := hzK.ints (by have := clsZ_len P ; omega)
  clear hK hzK
  go_wp2_with fail
  refine Calls.mono (eqInt64SSS_ok _ _ _ _ wK _ _ hKD r_18) ?_
  rintro eS wS ⟨vS, rfl, hgS, rfl⟩
  clear hKD
  have a_19 := grown_trans a_18 hgS
  have b_19 := b_18.ext hgS
  have r_19 := Rows3.ext r_18 hgS
  have rz_19 := Ints.ext rz_18 hgS
  have g_19 := rdRows3.mono g_18 (frame_ext hgS)
  have gz_19 := rdOwn.mono gz_18 (frame_ext hgS)
  clear a_18 b_18 r_18 rz_18 g_18 gz_18
  have s_19 := Lib.hid hgS.size
  have hKZS := Ints.ext hKZ hgS
  go_wp2_with fail
  refine Calls.mono (eqInt64S_ok _ _ _ _ wS _ _ hKZS rz_19) ?_
  rintro ey3 wy3 ⟨vy3, rfl, hgy3, rfl⟩
  have a_20 := grown_trans a_19 hgy3
  have b_20 := b_19.ext hgy3
  have r_20 := Rows3.ext r_19 hgy3
  have rz_20 := Ints.ext rz_19 hgy3
  have g_20 := rdRows3.mono g_19 (frame_ext hgy3)
  have gz_20 := rdOwn.mono gz_19 (frame_ext hgy3)
  clear a_19 b_19 r_19 rz_19 g_19 gz_19
  have s_20 := Lib.hid hgy3.size
  clear hKZ hKZS
  go_wp2_with fail
  refine Calls.mono (heldInt64SSS_ok _ (clsF P ) 1 wy3 _ (Rows3D.rows g_20) ⟨by omega, by have := Hbt.out; omega⟩) ?_
  rintro eT wT ⟨vT, rfl, hgT, rfl⟩
  rw [← Htt.out]
  have a_21 := grown_trans a_20 hgT
  have b_21 := b_20.ext hgT
  have r_21 := Rows3.ext r_20 hgT
  have rz_21 := Ints.ext rz_20 hgT
  have g_21 := rdRows3.mono g_20 (frame_ext hgT)
  have gz_21 := rdOwn.mono gz_20 (frame_ext hgT)
  clear a_20 b_20 r_20 rz_20 g_20 gz_20
  have s_21 := Lib.hid hgT.size
  go_wp2_with fail
  refine Calls.mono (heldInt64S_ok _ nz (1 + tt) wT _ gz_21.ints ⟨by omega, by omega⟩) ?_
  rintro eU2 wU2 ⟨vU2, rfl, hgU2, rfl⟩
  have a_22 := grown_trans a_21 hgU2
  have b_22 := b_21.ext hgU2
  have r_22 := Rows3.ext r_21 hgU2
  have rz_22 := Ints.ext rz_21 hgU2
  have g_22 := rdRows3.mono g_21 (frame_ext hgU2)
  have gz_22 := rdOwn.mono gz_21 (frame_ext hgU2)
  clear a_21 b_21 r_21 rz_21 g_21 gz_21
  have s_22 := Lib.hid hgU2.size
  go_wp2
  go_ret
  exact ⟨_, rfl, a_22, rfl⟩

end Go.Proofs.YtdklekdpdbjfiaaGreat
