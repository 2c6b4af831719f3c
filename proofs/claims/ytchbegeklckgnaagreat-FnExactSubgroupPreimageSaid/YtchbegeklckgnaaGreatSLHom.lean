/-
  laws.szHom, eqHom: the size of a homomorphism's data, and their comparison.
-/
import Derived.Test.YtchbegeklckgnaaGreatSHomKer
import Derived.Test.YtchbegeklckgnaaGreatK8
namespace Go.Proofs.YtchbegeklckgnaaGreat
open Go.RowKit

/-- a struct of seven cells that may be written -/
def Box7 (W : World) (b : Nat) (x0 x1 x2 x3 x4 x5 x6 : Value) : Prop :=
  b < W.heap.size ∧ W.cell? ⟨b, 0, none⟩ = some x0 ∧ W.cell? ⟨b, 1, none⟩ = some x1 ∧ W.cell? ⟨b, 2, none⟩ = some x2 ∧ W.cell? ⟨b, 3, none⟩ = some x3 ∧ W.cell? ⟨b, 4, none⟩ = some x4 ∧ W.cell? ⟨b, 5, none⟩ = some x5 ∧ W.cell? ⟨b, 6, none⟩ = some x6 ∧ ∀ k, W.frozen? ⟨b, k, none⟩ = false
theorem Box7.keep {W W' : World} {b : Nat} {x0 x1 x2 x3 x4 x5 x6 : Value} (h : Box7 W b x0 x1 x2 x3 x4 x5 x6) (hs : W.heap.size ≤ W'.heap.size) (e : W'.heap[b]? = W.heap[b]?) : Box7 W' b x0 x1 x2 x3 x4 x5 x6 := by
  obtain ⟨h0, c0, c1, c2, c3, c4, c5, c6, f⟩ := h
  exact ⟨Nat.lt_of_lt_of_le h0 hs, (World.cell?_of_block (w := W) e).trans c0, (World.cell?_of_block (w := W) e).trans c1, (World.cell?_of_block (w := W) e).trans c2, (World.cell?_of_block (w := W) e).trans c3, (World.cell?_of_block (w := W) e).trans c4, (World.cell?_of_block (w := W) e).trans c5, (World.cell?_of_block (w := W) e).trans c6, fun k => (World.frozen?_of_block (w := W) e).trans (f k)⟩
theorem Box7.ext {W W' : World} {b : Nat} {x0 x1 x2 x3 x4 x5 x6 : Value} (h : Box7 W b x0 x1 x2 x3 x4 x5 x6) (hg : Ext W W') : Box7 W' b x0 x1 x2 x3 x4 x5 x6 := h.keep hg.size (hg.block b h.1 (by simp))
theorem Box7.made (w : World) (T : Nat) (x0 x1 x2 x3 x4 x5 x6 : Value) : Box7 (w.alloc (.cells #[x0, x1, x2, x3, x4, x5, x6] T)) w.heap.size x0 x1 x2 x3 x4 x5 x6 := by
  have hc : ∀ i, (w.alloc (.cells #[x0, x1, x2, x3, x4, x5, x6] T)).cell? ⟨w.heap.size, i, none⟩ = #[x0, x1, x2, x3, x4, x5, x6][i]? := fun i => World.cell?_alloc_at _ _ _ _ rfl
  exact ⟨by simp, by rw [hc]; rfl, by rw [hc]; rfl, by rw [hc]; rfl, by rw [hc]; rfl, by rw [hc]; rfl, by rw [hc]; rfl, by rw [hc]; rfl, fun k => World.frozen?_alloc_at _ _ _ _ rfl⟩

def sizeH (P Q : Pr) (Is : List (List Int)) : Nat := sizeP P + sizeP Q + size2 Is

set_option maxHeartbeats 1000000 in
theorem szHom_ok (v : Value) (P Q : Pr) (Is : List (List Int)) (L : Int) (w : World) (S : Nat → Prop) (h : HomV S w v P Q Is) (hL : 0 ≤ L ∧ L ≤ 1048576) :
    Calls Tryz.prog 13 #[v, .int .i64 L] w (Ret w fun _ r => SzR L (sizeH P Q Is) r) := by
  obtain ⟨vo, vp, vc, uo, up, uc, vi, rfl, h1, h2, h3⟩ := h
  have hg0 : Ext w (w.alloc (.cells #[vo, vp, vc, uo, up, uc, vi] 28)) := World.grownBy_alloc _ _ _
  have hB := Box7.made w 28 vo vp vc uo up uc vi
  have HB := Lib.hid hB
  have h10 := h1.ext hg0
  have h20 := h2.ext hg0
  have h30 := Rows2.ext h3 hg0
  obtain ⟨_, c0, c1, c2, c3, c4, c5, c6, _⟩ := hB
  go_enter Tryz.func13, Tryz.ntmps13
  go_wp2_with fail
  clear c0 c1 c2 c3 c4 c5 c6
  generalize hww : w.alloc (.cells #[vo, vp, vc, uo, up, uc, vi] 28) = w0 at *
  clear hww
  refine Calls.mono (szPresentation_ok _ P L w0 S ⟨_, _, _, rfl, h10⟩ hL) ?_
  rintro eA wA ⟨vA, rfl, hgA, ⟨hA, rfl⟩ | ⟨hA, rfl⟩⟩
  · obtain ⟨l1, hl1⟩ : ∃ l1 : Int, l1 = L - (sizeP P : Nat) := ⟨_, rfl⟩
    rw [← hl1]
    have hb1 : 0 ≤ l1 ∧ l1 ≤ 1048576 := by omega
    have hn1 : ¬ l1 < 0 := by omega
    have H1 := Lib.hid (And.intro hl1 hA); clear hl1 hA
    obtain ⟨_, c0, c1, c2, c3, c4, c5, c6, _⟩ := HB.out.ext hgA
    go_wp2_with fail
    clear c0 c1 c2 c3 c4 c5 c6
    refine Calls.mono (szPresentation_ok _ Q l1 wA S ⟨_, _, _, rfl, h20.ext hgA⟩ hb1) ?_
    rintro eB wB ⟨vB, rfl, hgB, ⟨hB, rfl⟩ | ⟨hB, rfl⟩⟩
    · obtain ⟨l2, hl2⟩ : ∃ l2 : Int, l2 = l1 - (sizeP Q : Nat) := ⟨_, rfl⟩
      rw [← hl2]
      have hb2 : 0 ≤ l2 ∧ l2 ≤ 1048576 := by omega
      have hn2 : ¬ l2 < 0 := by omega
      have H2 := Lib.hid (And.intro hl2 hB); clear hl2 hB
      have hgAB := grown_trans hgA hgB
      obtain ⟨_, c0, c1, c2, c3, c4, c5, c6, _⟩ := HB.out.ext hgAB
      clear hn1
      go_wp2_with fail
      clear c0 c1 c2 c3 c4 c5 c6
      refine Calls.mono (szInt64SS_ok _ Is l2 wB S (Rows2.ext h30 hgAB) hb2) ?_
      rintro eC wC ⟨vC, rfl, hgC, ⟨hC, rfl⟩ | ⟨hC, rfl⟩⟩
      · obtain ⟨l3, hl3⟩ : ∃ l3 : Int, l3 = l2 - (size2 Is : Nat) := ⟨_, rfl⟩
        rw [← hl3]
        have hn3 : ¬ l3 < 0 := by omega
        have H3 := Lib.hid (And.intro hl3 hC); clear hl3 hC
        clear hn2
        go_wp2
        go_ret
        exact ⟨_, rfl, grown_trans hg0 (grown_trans hgAB hgC), .inl ⟨by have := H1.out; have := H2.out; have := H3.out; unfold sizeH; omega, congrArg (Value.int .i64) (by have := H1.out; have := H2.out; have := H3.out; unfold sizeH; omega)⟩⟩
      · have H3 := Lib.hid hC; clear hC hn2
        go_wp2
        go_ret
        exact ⟨_, rfl, grown_trans hg0 (grown_trans hgAB hgC), .inr ⟨by have := H1.out; have := H2.out; have := H3.out; unfold sizeH; omega, rfl⟩⟩
    · have H3 := Lib.hid hB; clear hB hn1
      go_wp2
      go_ret
      exact ⟨_, rfl, grown_trans hg0 (grown_trans hgA hgB), .inr ⟨by have := H1.out; have := H3.out; unfold sizeH; omega, rfl⟩⟩
  · have H3 := Lib.hid hA; clear hA
    go_wp2
    go_ret
    exact ⟨_, rfl, grown_trans hg0 hgA, .inr ⟨by have := H3.out; unfold sizeH; omega, rfl⟩⟩

set_option maxRecDepth 100000 in
set_option maxHeartbeats 2000000 in
theorem eqHom_ok (v1 v2 : Value) (P Q : Pr) (Is : List (List Int)) (w : World) (S1 S2 : Nat → Prop) (h1 : HomV S1 w v1 P Q Is) (h2 : HomV S2 w v2 P Q Is) :
    Calls Tryz.prog 18 #[v1, v2] w (Ret w fun _ v => v = .bool true) := by
  obtain ⟨vo, vp, vc, uo, up, uc, vi, rfl, a1, a2, a3⟩ := h1
  obtain ⟨vo', vp', vc', uo', up', uc', vi', rfl, k1, k2, k3⟩ := h2
  have hg0 : Ext w ((w.alloc (.cells #[vo, vp, vc, uo, up, uc, vi] 34)).alloc (.cells #[vo', vp', vc', uo', up', uc', vi'] 34)) := grown_trans (World.grownBy_alloc _ _ _) (World.grownBy_alloc _ _ _)
  have hs1 : (w.alloc (.cells #[vo, vp, vc, uo, up, uc, vi] 34)).heap.size = w.heap.size + 1 := by simp
  have b1 := (Box7.made w 34 vo vp vc uo up uc vi).ext (World.grownBy_alloc _ (.cells #[vo', vp', vc', uo', up', uc', vi'] 34) none)
  have b2 := Box7.made (w.alloc (.cells #[vo, vp, vc, uo, up, uc, vi] 34)) 34 vo' vp' vc' uo' up' uc' vi'
  rw [hs1] at b2
  have HB := Lib.hid (And.intro b1 b2); clear hs1
  obtain ⟨_, c0, c1, c2, c3, c4, c5, c6, _⟩ := b1
  obtain ⟨_, d0, d1, d2, d3, d4, d5, d6, _⟩ := b2
  go_enter Tryz.func18, Tryz.ntmps18
  go_wp2_with fail
  clear c0 c1 c2 c3 c4 c5 c6 d0 d1 d2 d3 d4 d5 d6
  generalize hww : (w.alloc (.cells #[vo, vp, vc, uo, up, uc, vi] 34)).alloc (.cells #[vo', vp', vc', uo', up', uc', vi'] 34) = w0 at *
  clear hww
  refine Calls.mono (eqPresentation_ok _ _ P w0 S1 S2 ⟨_, _, _, rfl, a1.ext hg0⟩ ⟨_, _, _, rfl, k1.ext hg0⟩) ?_
  rintro eA wA ⟨vA, rfl, hgA, rfl⟩
  have hgwA := grown_trans hg0 hgA
  obtain ⟨_, c0, c1, c2, c3, c4, c5, c6, _⟩ := HB.out.1.ext hgA
  obtain ⟨_, d0, d1, d2, d3, d4, d5, d6, _⟩ := HB.out.2.ext hgA
  go_wp2_with fail
  clear c0 c1 c2 c3 c4 c5 c6 d0 d1 d2 d3 d4 d5 d6
  refine Calls.mono (eqPresentation_ok _ _ Q wA S1 S2 ⟨_, _, _, rfl, a2.ext hgwA⟩ ⟨_, _, _, rfl, k2.ext hgwA⟩) ?_
  rintro eB wB ⟨vB, rfl, hgB, rfl⟩
  have hgwB := grown_trans hgwA hgB
  obtain ⟨_, c0, c1, c2, c3, c4, c5, c6, _⟩ := HB.out.1.ext (grown_trans hgA hgB)
  obtain ⟨_, d0, d1, d2, d3, d4, d5, d6, _⟩ := HB.out.2.ext (grown_trans hgA hgB)
  go_wp2_with fail
  clear c0 c1 c2 c3 c4 c5 c6 d0 d1 d2 d3 d4 d5 d6
  refine Calls.mono (eqInt64SS_ok _ _ Is Is wB S1 S2 (Rows2.ext a3 hgwB) (Rows2.ext k3 hgwB)) ?_
  rintro eC wC ⟨vC, rfl, hgC, rfl⟩
  have e1 : eqB Is Is = true := eqB_true.2 rfl
  go_wp2
  go_ret
  exact ⟨_, rfl, grown_trans hgwB hgC, rfl⟩

end Go.Proofs.YtchbegeklckgnaaGreat
