/-
  laws.FnExactClassPowers: whatever the presentation and the exponent, the law answers true.
-/
import Derived.Test.YtljdneobfbimiaaK4
import Derived.Test.YtljdneobfbimiaaSLawSt
import Derived.Test.YtljdneobfbimiaaSIPowers
namespace Go.Proofs.Ytljdneobfbimiaa
open Go.RowKit

open Classical in
/-- what both sides hand back -/
noncomputable def powL (P : Pr) (K : Int) : List Int := if powCode P K (iconsB P) = 0 then powsOf P K else []

theorem powL_len (P : Pr) (K : Int) : (powL P K).length ≤ 128 := by
  unfold powL
  split
  · rename_i h
    have hlen : (iCls P).length ≤ (ordP P).toNat := iClsTo_len P _
    have h128 := (powCode_zero h).2.2
    unfold powsOf repsOf; rw [List.length_map, List.length_map]; omega
  · simp

theorem iPows2_ok (P : Pr) (K : Int) (w : World) (pv : Value) (Sp : Nat → Prop) (hpv : PresV Sp w pv P) :
    Calls Try.prog 21 #[pv, .int .i64 K] w (Ret w fun w' v => ∃ a n c, v = .tuple #[.slice a n c, .int .i64 (powCode P K (iconsB P))] ∧ Own w.heap.size w' (.slice a n c) (powL P K)) := by
  refine Calls.mono (iClassPowers_ok P K w pv Sp hpv) ?_
  rintro e w' ⟨v, rfl, hg, r, rfl, h⟩
  rcases h with ⟨hz, rfl⟩ | ⟨hz, hO⟩
  · exact ⟨_, rfl, hg, _, _, _, rfl, by unfold powL; rw [if_neg hz]; exact World.ownsRow_nil _ _ _ _⟩
  · have hl := powL_len P K
    have e : powL P K = powsOf P K := by unfold powL; rw [if_pos hz]
    rw [e] at hl
    obtain ⟨a, c, rfl, _⟩ := (hO.ints (by omega)).shape
    exact ⟨_, rfl, hg, _, _, _, rfl, by rw [e]; exact hO⟩

theorem sPows2_ok (P : Pr) (K : Int) (w : World) (pv : Value) (Sp : Nat → Prop) (hpv : PresV Sp w pv P) :
    Calls Try.prog 20 #[pv, .int .i64 K] w (Ret w fun w' v => ∃ a n c, v = .tuple #[.slice a n c, .int .i64 (powCode P K (iconsB P))] ∧ Own w.heap.size w' (.slice a n c) (powL P K)) := by
  refine Calls.mono (sClassPowers_ok P K w pv Sp hpv) ?_
  rintro e w' ⟨v, rfl, hg, r, rfl, h⟩
  rw [← icons_eq P] at h ⊢
  rcases h with ⟨hz, rfl⟩ | ⟨hz, hO⟩
  · exact ⟨_, rfl, hg, _, _, _, rfl, by unfold powL; rw [if_neg hz]; exact World.ownsRow_nil _ _ _ _⟩
  · have hl := powL_len P K
    have e : powL P K = powsOf P K := by unfold powL; rw [if_pos hz]
    rw [e] at hl
    obtain ⟨a, c, rfl, _⟩ := (hO.ints (by omega)).shape
    exact ⟨_, rfl, hg, _, _, _, rfl, by rw [e]; exact hO⟩

set_option maxRecDepth 100000 in
set_option maxHeartbeats 16000000 in
theorem lawPowers_ok (P : Pr) (K : Int) (w : World) (pv : Value) (S : Nat → Prop) (hpv : PresV S w pv P) :
    Calls Try.prog 5 #[pv, .int .i64 K] w (Ret w fun _ v => v = .bool true) := by
  obtain ⟨vo, vp, vc, rfl, h3⟩ := hpv
  have hg0 : Ext w (w.alloc (.cells #[vo, vp, vc] 26)) := World.grownBy_alloc _ _ _
  have hB := Box3.made w 26 vo vp vc
  have HB := Lib.hid hB; clear hB
  go_enter Try.func5, Try.ntmps5
  go_wp2_with fail
  generalize w.alloc (.cells #[vo, vp, vc] 26) = w0 at *
  refine Calls.mono (szPresentation_ok _ P 1048576 _ S ⟨_, _, _, rfl, h3.ext hg0⟩ (by omega)) ?_
  rintro eA wA ⟨vA, rfl, hgA, ⟨hA, rfl⟩ | ⟨hA, rfl⟩⟩
  · have hsz : sizeP P ≤ 1048576 := by omega
    have h0 : ¬ ((1048576 : Int) - (sizeP P : Nat) < 0) := by omega
    have h0' : 0 ≤ (1048576 : Int) - (sizeP P : Nat) := by omega
    have hwA := grown_trans hg0 hgA
    have hBA := HB.out.ext hgA
    clear hA
    obtain ⟨_, b0, b1, b2, _⟩ := id hBA
    go_wp2_with fail
    clear h0 h0' b0 b1 b2
    refine Calls.mono (toPresentation_ok _ P wA S ⟨_, _, _, rfl, h3.ext hwA⟩ hsz) ?_
    rintro e2 w2 ⟨v2, rfl, hg2, hp2⟩
    have hW2 := grown_trans hwA hg2
    obtain ⟨xa1, xc1, xa2, xc2, xa3, xc3, rfl⟩ := hp2.shape
    go_wp2_with fail
    refine Calls.mono (sPows2_ok P K w2 _ _ hp2.v) ?_
    rintro e3 w3' ⟨v3, rfl, hg3, ra, rn, rc, rfl, hr⟩
    have hW3 := grown_trans hW2 hg3
    have hB3 := (hBA.ext hg2).ext hg3
    have hrI : OwnIn (fun k => w2.heap.size ≤ k ∧ k < w3'.heap.size) w3' (.slice ra rn rc) (powL P K) := OwnIn.of hr (by have := powL_len P K; omega) (fun k h1 h2 => ⟨h1, h2⟩)
    clear hr hp2
    obtain ⟨_, b0, b1, b2, _⟩ := id hB3
    go_wp2_with fail
    clear b0 b1 b2
    refine Calls.mono (toPresentation_ok _ P w3' S ⟨_, _, _, rfl, h3.ext hW3⟩ hsz) ?_
    rintro e4 w4 ⟨v4, rfl, hg4, hp4⟩
    have hW4 := grown_trans hW3 hg4
    have hB4 := hB3.ext hg4
    have hr4 := rdOwn.mono hrI (frame_ext hg4)
    have hp4' : PresW (fun k => w3'.heap.size ≤ k ∧ k < w4.heap.size) w4 v4 P := hp4.mono (fun k hk hlt => ⟨⟨hk, hlt⟩, hlt, rfl⟩)
    obtain ⟨oa, oc, pa, pc, ca, cc, rfl⟩ := hp4.shape
    clear hp4 hrI hB3
    have hg5 : Ext w4 (w4.alloc (.cells #[.slice oa P.orders.length oc, .slice pa P.powers.length pc, .slice ca P.conj.length cc] 30)) := World.grownBy_alloc _ _ _
    have hX5 := Box3.made w4 30 (.slice oa P.orders.length oc) (.slice pa P.powers.length pc) (.slice ca P.conj.length cc)
    have hs5 : (w4.alloc (.cells #[.slice oa P.orders.length oc, .slice pa P.powers.length pc, .slice ca P.conj.length cc] 30)).heap.size = w4.heap.size + 1 := by simp
    have hl23 := hg3.size
    have hl34 := hg4.size
    have H5 := Lib.hid (And.intro hX5 hs5); clear hX5 hs5
    go_wp2_with fail
    generalize w4.alloc (.cells #[.slice oa P.orders.length oc, .slice pa P.powers.length pc, .slice ca P.conj.length cc] 30) = w5 at *
    have hl45 := hg5.size
    refine Calls.mono (iPows2_ok P K w5 _ _ (hp4'.ext hg5).v) ?_
    rintro e6 w6 ⟨v6, rfl, hg6, ga, gn, gc, rfl, hG6⟩
    have hl56 := hg6.size
    have hl5 := H5.out.2
    have St6 : St P w w6 vo vp vc (.slice oa P.orders.length oc) (.slice pa P.powers.length pc) (.slice ca P.conj.length cc) (.slice ra rn rc) (.slice ga gn gc) w4.heap.size (fun k => w3'.heap.size ≤ k ∧ k < w4.heap.size) (fun k => w2.heap.size ≤ k ∧ k < w3'.heap.size) (fun k => w5.heap.size ≤ k ∧ k < w6.heap.size) (powL P K) (powL P K) :=
      ⟨grown_trans hW4 (grown_trans hg5 hg6), (hB4.ext hg5).ext hg6, H5.out.1.ext hg6, (hp4'.ext hg5).ext hg6, rdOwn.mono (rdOwn.mono hr4 (frame_ext hg5)) (frame_ext hg6), OwnIn.of hG6 (by have := powL_len P K; omega) (fun k h1 h2 => ⟨h1, h2⟩)⟩
    clear hG6 hB4 hr4 hp4'
    have HL := Lib.hid (And.intro hl23 (And.intro hl34 (And.intro hl5 hl56))); clear hl23 hl34 hl5 hl56 hl45
    have hlS : w2.heap.size ≤ w3'.heap.size ∧ w3'.heap.size ≤ w4.heap.size ∧ w5.heap.size = w4.heap.size + 1 := ⟨HL.out.1, HL.out.2.1, HL.out.2.2.1⟩
    have HS := Lib.hid hlS; clear hlS
    have hw02 : w.heap.size < w2.heap.size := by have := hBA.1; have := hg2.size; omega
    have HW02 := Lib.hid hw02; clear hw02
    have e1 : eqB (powL P K) (powL P K) = true := eqB_true.2 rfl
    -- the first look
    go_wp2_with fail
    refine Calls.mono (eqInt64S_ok _ _ _ _ w6 _ _ St6.g.ints St6.r.ints) ?_
    rintro e7 w7 ⟨v7, rfl, hg7, rfl⟩
    have St7 := St6.ext hg7
    clear St6
    go_wp2_with fail
    have ha0 : ∀ w', Ext w7 w' → w'.cell? ⟨w.heap.size, 0, none⟩ = some vo := fun w' h => (St7.b.ext h).2.1
    have ha1 : ∀ w', Ext w7 w' → w'.cell? ⟨w.heap.size, 1, none⟩ = some vp := fun w' h => (St7.b.ext h).2.2.1
    have ha2 : ∀ w', Ext w7 w' → w'.cell? ⟨w.heap.size, 2, none⟩ = some vc := fun w' h => (St7.b.ext h).2.2.2.1
    have hx0 : ∀ w', Ext w7 w' → w'.cell? ⟨w4.heap.size, 0, none⟩ = some (.slice oa P.orders.length oc) := fun w' h => (St7.x.ext h).2.1
    have hx1 : ∀ w', Ext w7 w' → w'.cell? ⟨w4.heap.size, 1, none⟩ = some (.slice pa P.powers.length pc) := fun w' h => (St7.x.ext h).2.2.1
    have hx2 : ∀ w', Ext w7 w' → w'.cell? ⟨w4.heap.size, 2, none⟩ = some (.slice ca P.conj.length cc) := fun w' h => (St7.x.ext h).2.2.2.1
    go_region_held3 (fun w' => Ext w7 w') (first | exact grown_drew _ _ | assumption)
      (first
        | (go_at_call 8; refine Calls.mono (Calls.rel (w0 := w7) (by assumption) (toPresentation_ok _ P _ S ⟨_, _, _, rfl, Pres3.ext h3 (grown_trans St7.a (by assumption))⟩ hsz)) ?_; rintro e8 w8 ⟨v8, rfl, hg8, hs8, hp8⟩; obtain ⟨ya, yc, yb, yd, ye, yf, rfl⟩ := hp8.shape)
        | (go_at_call 11; refine Calls.mono (Calls.rel (w0 := w7) (by assumption) (eqPresentation_ok _ _ P _ _ _ (PresW.v (PresW.ext St7.p (by assumption))) (PresW.v hp8))) ?_; rintro e9 w9 ⟨v9, rfl, hg9, hs9, rfl⟩))
    clear ha0 ha1 ha2 hx0 hx1 hx2 hp8
    have St9 := St7.ext hg9
    clear St7
    obtain ⟨_, c0, c1, c2, _⟩ := id St9.x
    go_wp2_with fail
    clear c0 c1 c2
    refine Calls.mono (markPresentation_ok _ P w9 _ St9.p hsz) ?_
    rintro eM wM ⟨q, hq, rfl, hTM⟩
    have hlt9 : w4.heap.size < w9.heap.size := St9.x.1
    have hbk : ∀ k, k < w3'.heap.size ∨ w4.heap.size < k → k < w9.heap.size → wM.heap[k]? = w9.heap[k]? := fun k h1 h2 => hTM.block k h2 (by rintro (h | h) <;> omega)
    have StM_a : Ext w wM := ⟨hTM.os.trans St9.a.os, hTM.tape.trans St9.a.tape, hTM.output.trans St9.a.output, Nat.le_trans St9.a.size hTM.size, fun k hk hne => (hbk k (by have := HS.out; have := HW02.out; omega) (by have := St9.b.1; omega)).trans (St9.a.block k hk hne)⟩
    have StM_b : Box3 wM w.heap.size vo vp vc := St9.b.keep hTM.size (hbk _ (by have := HS.out; have := HW02.out; omega) St9.b.1)
    have StM_r := rdOwn.mono St9.r (fun k hk hlt => ⟨hk, Nat.lt_of_lt_of_le hlt hTM.size, hbk k (by omega) hlt⟩)
    have StM_g := rdOwn.mono St9.g (fun k hk hlt => ⟨hk, Nat.lt_of_lt_of_le hlt hTM.size, hbk k (by have := HS.out; omega) hlt⟩)
    clear St9 hbk
    have HM := Lib.hid (And.intro StM_a (And.intro StM_b (And.intro StM_r StM_g))); clear StM_a StM_b StM_r StM_g
    have hq2 : ¬ q < 0 := by omega
    -- the second look
    go_wp2_with fail
    refine Calls.mono (eqInt64S_ok _ _ _ _ wM _ _ HM.out.2.2.2.ints HM.out.2.2.1.ints) ?_
    rintro eN wN ⟨vN, rfl, hgN, rfl⟩
    have hgN' := rdOwn.mono HM.out.2.2.2 (frame_ext hgN)
    go_wp2_with fail
    refine Calls.mono (markInt64S_ok _ (powL P K) 1 wN _ hgN' ⟨by omega, by have := powL_len P K; omega⟩) ?_
    rintro eO wO ⟨rfl, hTO, hgO⟩
    have hlM := hTM.size
    have hlN := hgN.size
    have hN_a : Ext w wN := grown_trans HM.out.1 hgN
    have hN_b := HM.out.2.1.ext hgN
    have hN_r := rdOwn.mono HM.out.2.2.1 (frame_ext hgN)
    have hO_a : Ext w wO := Touch.ext hN_a hTO (fun k hk => by have := HS.out; have := HW02.out; omega)
    have hO_b : Box3 wO w.heap.size vo vp vc := hN_b.keep hTO.size (hTO.block _ hN_b.1 (fun h => by have := HS.out; have := HW02.out; omega))
    have hO_r := rdOwn.mono hN_r (hTO.frame (S := fun k => w2.heap.size ≤ k ∧ k < w3'.heap.size) (fun k hk h => by have := HS.out; omega))
    clear hN_a hN_b hN_r hgN'
    have HO := Lib.hid (And.intro hO_a (And.intro hO_b (And.intro hO_r hgO))); clear hO_a hO_b hO_r hgO
    have hk1 : ¬ (1 + ((powL P K).length : Int) < 0) := by omega
    have hk2 : 0 ≤ 1 + ((powL P K).length : Int) := by omega
    go_wp2_with fail
    refine Calls.mono (heldInt64S_ok _ (powL P K).length 1 wO _ HO.out.2.2.2.ints ⟨by omega, by have := powL_len P K; omega⟩) ?_
    rintro eP wP ⟨vP, rfl, hgP, rfl⟩
    have hP_a := grown_trans HO.out.1 hgP
    have hP_b := HO.out.2.1.ext hgP
    have hP_r := rdOwn.mono HO.out.2.2.1 (frame_ext hgP)
    have hP_g := rdOwn.mono HO.out.2.2.2 (frame_ext hgP)
    have HP := Lib.hid (And.intro hP_a (And.intro hP_b (And.intro hP_r hP_g))); clear hP_a hP_b hP_r hP_g
    obtain ⟨_, b0, b1, b2, _⟩ := id HP.out.2.1
    go_wp2_with fail
    clear b0 b1 b2
    refine Calls.mono (toPresentation_ok _ P wP S ⟨_, _, _, rfl, h3.ext HP.out.1⟩ hsz) ?_
    rintro eQ wQ ⟨vQ, rfl, hgQ, hpQ⟩
    obtain ⟨za1, zc1, za2, zc2, za3, zc3, rfl⟩ := hpQ.shape
    go_wp2_with fail
    refine Calls.mono (iPows2_ok P K wQ _ _ hpQ.v) ?_
    rintro eR wR ⟨vR, rfl, hgR, ha, hn, hc, rfl, hHR⟩
    have hgPR := grown_trans hgQ hgR
    have hR_r := rdOwn.mono HP.out.2.2.1 (frame_ext hgPR)
    have hR_g := rdOwn.mono HP.out.2.2.2 (frame_ext hgPR)
    have hR_h := hHR.ints (by have := powL_len P K; omega)
    have HR := Lib.hid (And.intro hR_r (And.intro hR_g hR_h)); clear hR_r hR_g hR_h hHR hpQ
    go_wp2_with fail
    refine Calls.mono (eqInt64S_ok _ _ _ _ wR _ _ HR.out.2.2 HR.out.1.ints) ?_
    rintro eT wT ⟨vT, rfl, hgT, rfl⟩
    have hT_g := rdOwn.mono HR.out.2.1 (frame_ext hgT)
    have HT := Lib.hid hT_g; clear hT_g
    go_wp2_with fail
    refine Calls.mono (heldInt64S_ok _ (powL P K).length 1 wT _ HT.out.ints ⟨by omega, by have := powL_len P K; omega⟩) ?_
    rintro eU wU ⟨vU, rfl, hgU, rfl⟩
    go_wp2
    go_ret
    exact ⟨_, rfl, grown_trans HP.out.1 (grown_trans hgPR (grown_trans hgT hgU)), rfl⟩
  · go_wp2
    go_ret
    exact ⟨_, rfl, grown_trans hg0 hgA, rfl⟩

end Go.Proofs.Ytljdneobfbimiaa
