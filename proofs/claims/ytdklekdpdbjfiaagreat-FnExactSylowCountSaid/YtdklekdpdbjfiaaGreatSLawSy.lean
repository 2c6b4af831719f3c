/-
  laws.FnExactSylowCount: whatever the arguments, the law answers true. (Printed by gen_law.py.)
-/
import Derived.Test.YtdklekdpdbjfiaaGreatK2
import Derived.Test.YtdklekdpdbjfiaaGreatK9
namespace Go.Proofs.YtdklekdpdbjfiaaGreat
open Go.RowKit

set_option maxRecDepth 100000 in
set_option maxHeartbeats 32000000 in
theorem lawSy_ok (P : Pr) (U0 : Int) (w : World) (pv : Value) (S : Nat → Prop) (hpv : PresV S w pv P) :
    Calls Tryz.prog 4 #[pv, .int .i64 U0] w (Ret w fun _ v => v = .bool true) := by
  obtain ⟨vo, vp, vc, rfl, h3⟩ := hpv
  have hg0 : Ext w (w.alloc (.cells #[vo, vp, vc] 26)) := World.grownBy_alloc _ _ _
  have hB := Box3.made w 26 vo vp vc
  have HB := Lib.hid hB; clear hB
  go_enter Tryz.func4, Tryz.ntmps4
  go_wp2_with fail
  generalize w.alloc (.cells #[vo, vp, vc] 26) = w0 at *
  have hbx := HB.out
  have s_b := Lib.hid hbx.1
  refine Calls.mono (szPresentation_ok _ P 1048576 _ S ⟨_, _, _, rfl, h3.ext hg0⟩ (by omega)) ?_
  rintro eA wA ⟨vA, rfl, hgA, ⟨hA, rfl⟩ | ⟨hA, rfl⟩⟩
  case inr =>
    go_wp2
    go_ret
    exact ⟨_, rfl, grown_trans hg0 hgA, rfl⟩
  have hsz : sizeP P ≤ 1048576 := by omega
  obtain ⟨l0, hl0⟩ : ∃ l0 : Int, l0 = 1048576 - (sizeP P : Nat) := ⟨_, rfl⟩
  rw [← hl0]
  have hb0 : 0 ≤ l0 ∧ l0 ≤ 1048576 := by omega
  have Hl0 := Lib.hid hl0; clear hl0 hA
  have hn0 : ¬ l0 < 0 := by omega
  have a_1 := grown_trans hg0 hgA
  have b_1 := hbx.ext hgA
  clear hg0 hbx
  have s_1 := Lib.hid hgA.size
  obtain ⟨_, b0, b1, b2, _⟩ := id b_1
  go_wp2_with fail
  clear b0 b1 b2
  refine Calls.mono (toPresentation_ok _ P wA S ⟨_, _, _, rfl, h3.ext a_1⟩ hsz) ?_
  rintro eAP wAP ⟨vAP, rfl, hgAP, hpA⟩
  have hqA : PresW (fun k => wA.heap.size ≤ k ∧ k < wAP.heap.size) wAP vAP P := hpA.mono (fun k hk hlt => ⟨⟨hk, hlt⟩, hlt, rfl⟩)
  obtain ⟨Aa1, Ac1, Aa2, Ac2, Aa3, Ac3, rfl⟩ := hpA.shape
  clear hpA
  have a_2 := grown_trans a_1 hgAP
  have b_2 := b_1.ext hgAP
  clear a_1 b_1
  have s_2 := Lib.hid hgAP.size
  go_wp2_with fail
  refine Calls.mono (sSy_ok P wAP _  U0 _  (PresW.v hqA) ) ?_
  rintro eR wR ⟨vR, rfl, hgR, rfl⟩
  clear hqA
  have a_3 := grown_trans a_2 hgR
  have b_3 := b_2.ext hgR
  clear a_2 b_2
  have s_3 := Lib.hid hgR.size
  obtain ⟨_, b0, b1, b2, _⟩ := id b_3
  go_wp2_with fail
  clear b0 b1 b2
  refine Calls.mono (toPresentation_ok _ P wR S ⟨_, _, _, rfl, h3.ext a_3⟩ hsz) ?_
  rintro eBP wBP ⟨vBP, rfl, hgBP, hpB⟩
  have hqB : PresW (fun k => wR.heap.size ≤ k ∧ k < wBP.heap.size) wBP vBP P := hpB.mono (fun k hk hlt => ⟨⟨hk, hlt⟩, hlt, rfl⟩)
  obtain ⟨Ba1, Bc1, Ba2, Bc2, Ba3, Bc3, rfl⟩ := hpB.shape
  clear hpB
  have a_4 := grown_trans a_3 hgBP
  have b_4 := b_3.ext hgBP
  clear a_3 b_3
  have s_4 := Lib.hid hgBP.size
  have hgBX : Ext wBP (wBP.alloc (.cells #[.slice Ba1 P.orders.length Bc1, .slice Ba2 P.powers.length Bc2, .slice Ba3 P.conj.length Bc3] 31)) := World.grownBy_alloc _ _ _
  have hxB := Box3.made wBP 31 (.slice Ba1 P.orders.length Bc1) (.slice Ba2 P.powers.length Bc2) (.slice Ba3 P.conj.length Bc3)
  have sxB : (wBP.alloc (.cells #[.slice Ba1 P.orders.length Bc1, .slice Ba2 P.powers.length Bc2, .slice Ba3 P.conj.length Bc3] 31)).heap.size = wBP.heap.size + 1 := by simp
  have HxB := Lib.hid (And.intro hxB sxB); clear hxB sxB
  go_wp2_with fail
  generalize wBP.alloc (.cells #[.slice Ba1 P.orders.length Bc1, .slice Ba2 P.powers.length Bc2, .slice Ba3 P.conj.length Bc3] 31) = wBX at *
  have hxxB := HxB.out.1
  have sxB := Lib.hid HxB.out.2
  have a_5 := grown_trans a_4 hgBX
  have b_5 := b_4.ext hgBX
  have pB_5 := hqB.ext hgBX
  clear a_4 b_4 hqB
  have s_5 := Lib.hid hgBX.size
  obtain ⟨_, b0, b1, b2, _⟩ := id hxxB
  go_wp2_with fail
  clear b0 b1 b2
  refine Calls.mono (iSy_ok P wBX _  U0 _  (PresW.v pB_5) ) ?_
  rintro eG wG ⟨vG, rfl, hgG, rfl⟩
  have a_6 := grown_trans a_5 hgG
  have b_6 := b_5.ext hgG
  have pB_6 := pB_5.ext hgG
  have xB_6 := hxxB.ext hgG
  clear a_5 b_5 pB_5 hxxB
  have s_6 := Lib.hid hgG.size
  go_wp2_with fail
  have ha0 : ∀ w', Ext wG w' → w'.cell? ⟨w.heap.size, 0, none⟩ = some vo := fun w' h => (b_6.ext h).2.1
  have ha1 : ∀ w', Ext wG w' → w'.cell? ⟨w.heap.size, 1, none⟩ = some vp := fun w' h => (b_6.ext h).2.2.1
  have ha2 : ∀ w', Ext wG w' → w'.cell? ⟨w.heap.size, 2, none⟩ = some vc := fun w' h => (b_6.ext h).2.2.2.1
  have hx0 : ∀ w', Ext wG w' → w'.cell? ⟨wBP.heap.size, 0, none⟩ = some (.slice Ba1 P.orders.length Bc1) := fun w' h => (xB_6.ext h).2.1
  have hx1 : ∀ w', Ext wG w' → w'.cell? ⟨wBP.heap.size, 1, none⟩ = some (.slice Ba2 P.powers.length Bc2) := fun w' h => (xB_6.ext h).2.2.1
  have hx2 : ∀ w', Ext wG w' → w'.cell? ⟨wBP.heap.size, 2, none⟩ = some (.slice Ba3 P.conj.length Bc3) := fun w' h => (xB_6.ext h).2.2.2.1
  go_region_held3 (fun w' => Ext wG w') (first | exact grown_drew _ _ | assumption)
    (first
      | (go_at_call 18; refine Calls.mono (Calls.rel (w0 := wG) (by assumption) (toPresentation_ok _ P _ S ⟨_, _, _, rfl, Pres3.ext h3 (grown_trans a_6 (by assumption))⟩ hsz)) ?_; rintro e8 w8 ⟨v8, rfl, hg8, hs8, hp8⟩; obtain ⟨ya, yc, yb, yd, ye, yf, rfl⟩ := hp8.shape)
      | (go_at_call 21; refine Calls.mono (Calls.rel (w0 := wG) (by assumption) (eqPresentation_ok _ _ P _ _ _ (PresW.v (PresW.ext pB_6 (by assumption))) (PresW.v hp8))) ?_; rintro e9 w9 ⟨v9, rfl, hg9, hs9, rfl⟩))
  clear ha0 ha1 ha2 hx0 hx1 hx2 hp8 hg8
  have a_7 := grown_trans a_6 hg9
  have b_7 := b_6.ext hg9
  have pB_7 := pB_6.ext hg9
  have xB_7 := xB_6.ext hg9
  clear a_6 b_6 pB_6 xB_6
  have s_7 := Lib.hid hg9.size
  go_wp2
  go_ret
  exact ⟨_, rfl, a_7, rfl⟩

end Go.Proofs.YtdklekdpdbjfiaaGreat
