/-
  laws.toHom, markHom: a copy of a homomorphism's data, and its marks.
-/
import Derived.Test.YtchbegeklckgnaaGreatSLHom
import Derived.Test.YtchbegeklckgnaaGreatK8
namespace Go.Proofs.YtchbegeklckgnaaGreat
open Go.RowKit

set_option maxHeartbeats 2000000 in
theorem markPresentationK_ok (K : Int) (hK : 0 ≤ K ∧ K ≤ 100000000) (v : Value) (P : Pr) (w : World) (F : Nat → Prop) (h : PresW F w v P) (hl : sizeP P ≤ 1048576) :
    Calls Tryz.prog 31 #[v, .int .i64 K] w fun e w' => ∃ q : Int, (0 ≤ q ∧ q ≤ K + 4000000) ∧ e = .returned (.int .i64 q) ∧ Touch (fun k => F k ∨ w.heap.size ≤ k) w w' := by
  obtain ⟨vo, vp, vc, Fo, Fp, Fc, rfl, h1, h2, h3, h4, h5, h6⟩ := h
  have ho : P.orders.length ≤ 1048576 := by unfold sizeP at hl; omega
  have hp : tot2 P.powers ≤ 1048576 := by have := szTo_le P.powers; unfold sizeP at hl; omega
  have hc : tot3 P.conj ≤ 1048576 := by have := tot3_le P.conj; unfold sizeP at hl; omega
  have HS := Lib.hid (And.intro ho (And.intro hp hc)); clear ho hp hc hl
  have hg0 : Ext w (w.alloc (.cells #[vo, vp, vc] 32)) := World.grownBy_alloc _ _ _
  have b1 := Box3.made w 32 vo vp vc
  have hfr : ∀ (G : Nat → Prop) k, G k → k < w.heap.size → (G k ∧ k < w.heap.size) ∧ k < (w.alloc (.cells #[vo, vp, vc] 32)).heap.size ∧ (w.alloc (.cells #[vo, vp, vc] 32)).heap[k]? = w.heap[k]? := fun G k hk hlt => ⟨⟨hk, hlt⟩, Nat.lt_of_lt_of_le hlt hg0.size, hg0.block k hlt (by simp)⟩
  have g1 := rdOwn.mono h1 (hfr Fo)
  have g2 := rdRowsW.mono h2 (hfr Fp)
  have g3 := SlD.mono rdRowsW h3 (hfr Fc)
  have HF := Lib.hid (And.intro g1 (And.intro g2 (And.intro g3 (And.intro h4 (And.intro h5 h6))))); clear g1 g2 g3 h1 h2 h3 h4 h5 h6 hfr
  have HB := Lib.hid b1; clear b1
  have hsz : (w.alloc (.cells #[vo, vp, vc] 32)).heap.size = w.heap.size + 1 := by simp
  have HZ := Lib.hid hsz; clear hsz
  have hvo : ∃ a n c, vo = .slice a n c := by obtain ⟨a, c, hv, _⟩ := HF.out.1.ints.shape; exact ⟨_, _, _, hv⟩
  have hvp : ∃ a n c, vp = .slice a n c := by obtain ⟨a, c, hv, _⟩ := SlD.shape HF.out.2.1; exact ⟨_, _, _, hv⟩
  have hvc : ∃ a n c, vc = .slice a n c := by obtain ⟨a, c, hv, _⟩ := SlD.shape HF.out.2.2.1; exact ⟨_, _, _, hv⟩
  obtain ⟨oa, on, oc, rfl⟩ := hvo
  obtain ⟨pa, pn, pc, rfl⟩ := hvp
  obtain ⟨ca, cn, cc, rfl⟩ := hvc
  go_enter Tryz.func31, Tryz.ntmps31
  go_wp2_with fail
  generalize w.alloc (.cells #[.slice oa on oc, .slice pa pn pc, .slice ca cn cc] 32) = w0 at *
  have hbox : ∀ (G : Nat → Prop) (u1 u2 : World), Touch (fun k => G k ∧ k < w.heap.size) u1 u2 → Box3 u1 w.heap.size (.slice oa on oc) (.slice pa pn pc) (.slice ca cn cc) → Box3 u2 w.heap.size (.slice oa on oc) (.slice pa pn pc) (.slice ca cn cc) := fun G u1 u2 ht hb => by
    obtain ⟨c0, c1, c2, c3, c4⟩ := hb
    have e := ht.block w.heap.size c0 (fun h => by have := h.2; omega)
    exact ⟨Nat.lt_of_lt_of_le c0 ht.size, (World.cell?_of_block (w := u1) e).trans c1, (World.cell?_of_block (w := u1) e).trans c2, (World.cell?_of_block (w := u1) e).trans c3, fun k => (World.frozen?_of_block (w := u1) e).trans (c4 k)⟩
  have HX := Lib.hid hbox; clear hbox
  refine Calls.mono (markInt64S_ok _ _ K _ _ HF.out.1 ⟨by omega, by have := HS.out.1; omega⟩) ?_
  rintro eA wA ⟨rfl, hTA, _⟩
  have BA := HX.out _ _ _ hTA HB.out
  obtain ⟨_, a0, a1, a2, _⟩ := id BA
  have hpA := rdRowsW.mono HF.out.2.1 (hTA.frame (S := fun k => Fp k ∧ k < w.heap.size) (fun k hk hk' => (HF.out.2.2.2.1 k hk'.1).2.1 hk.1))
  have hcA := SlD.mono rdRowsW HF.out.2.2.1 (hTA.frame (S := fun k => Fc k ∧ k < w.heap.size) (fun k hk hk' => (HF.out.2.2.2.1 k hk'.1).2.2 hk.1))
  go_wp2_with fail
  clear a0 a1 a2
  refine Calls.mono (markInt64SS_ok _ _ (K + (P.orders.length : Int)) _ _ hpA ⟨by omega, by have := HS.out; omega⟩) ?_
  rintro eB wB ⟨rfl, hTB, _⟩
  have BB := HX.out _ _ _ hTB BA
  obtain ⟨_, a0, a1, a2, _⟩ := id BB
  have hcB := SlD.mono rdRowsW hcA (hTB.frame (S := fun k => Fc k ∧ k < w.heap.size) (fun k hk hk' => (HF.out.2.2.2.2.1 k hk'.1).2 hk.1))
  go_wp2_with fail
  clear a0 a1 a2
  refine Calls.mono (markInt64SSS_ok _ _ (K + (P.orders.length : Int) + (tot2 P.powers : Nat)) _ _ hcB ⟨by omega, by have := HS.out; omega⟩) ?_
  rintro eC wC ⟨rfl, hTC, _⟩
  go_wp2
  go_ret
  have t0 : Touch (fun k => F k ∨ w.heap.size ≤ k) w w0 := Touch.of hg0 (fun k hk => by cases hk)
  have t1 : Touch (fun k => F k ∨ w.heap.size ≤ k) w wA := t0.trans hTA (fun _ h => h) (fun k hk => .inl (HF.out.2.2.2.1 k hk.1).1)
  have t2 : Touch (fun k => F k ∨ w.heap.size ≤ k) w wB := t1.trans hTB (fun _ h => h) (fun k hk => .inl (HF.out.2.2.2.2.1 k hk.1).1)
  have t3 : Touch (fun k => F k ∨ w.heap.size ≤ k) w wC := t2.trans hTC (fun _ h => h) (fun k hk => .inl (HF.out.2.2.2.2.2 k hk.1))
  exact ⟨_, ⟨by omega, by have := HS.out; omega⟩, rfl, t3⟩


/-- a homomorphism's data by value, each part in blocks of its own that may be written -/
def HomW (F : Nat → Prop) (w : World) (v : Value) (P Q : Pr) (Is : List (List Int)) : Prop :=
  ∃ Fp Fq Fi vo vp vc uo up uc vi, v = .agg #[vo, vp, vc, uo, up, uc, vi] ∧ PresW Fp w (.agg #[vo, vp, vc]) P ∧ PresW Fq w (.agg #[uo, up, uc]) Q ∧ RowsD Fi w vi Is ∧
    (∀ k, Fp k → F k ∧ ¬ Fq k ∧ ¬ Fi k) ∧ (∀ k, Fq k → F k ∧ ¬ Fi k) ∧ (∀ k, Fi k → F k)

theorem HomW.mono {F F' : Nat → Prop} {w w' : World} {v : Value} {P Q : Pr} {Is : List (List Int)} (h : HomW F w v P Q Is) (hb : ∀ k, F k → k < w.heap.size → F' k ∧ k < w'.heap.size ∧ w'.heap[k]? = w.heap[k]?) : HomW F' w' v P Q Is := by
  obtain ⟨Fp, Fq, Fi, vo, vp, vc, uo, up, uc, vi, rfl, h1, h2, h3, h4, h5, h6⟩ := h
  refine ⟨fun k => Fp k ∧ k < w.heap.size, fun k => Fq k ∧ k < w.heap.size, fun k => Fi k ∧ k < w.heap.size, vo, vp, vc, uo, up, uc, vi, rfl, h1.mono (fun k hk hlt => ⟨⟨hk, hlt⟩, (hb k (h4 k hk).1 hlt).2⟩),
    h2.mono (fun k hk hlt => ⟨⟨hk, hlt⟩, (hb k (h5 k hk).1 hlt).2⟩), rdRows.mono h3 (fun k hk hlt => ⟨⟨hk, hlt⟩, (hb k (h6 k hk) hlt).2⟩), fun k hk => ?_, fun k hk => ?_, fun k hk => ?_⟩
  · exact ⟨(hb k (h4 k hk.1).1 hk.2).1, fun h => (h4 k hk.1).2.1 h.1, fun h => (h4 k hk.1).2.2 h.1⟩
  · exact ⟨(hb k (h5 k hk.1).1 hk.2).1, fun h => (h5 k hk.1).2 h.1⟩
  · exact (hb k (h6 k hk.1) hk.2).1
theorem HomW.ext {F : Nat → Prop} {w w' : World} {v : Value} {P Q : Pr} {Is : List (List Int)} (h : HomW F w v P Q Is) (hg : Ext w w') : HomW F w' v P Q Is := h.mono (frame_ext hg)
theorem HomW.v {F : Nat → Prop} {w : World} {v : Value} {P Q : Pr} {Is : List (List Int)} (h : HomW F w v P Q Is) : HomV F w v P Q Is := by
  obtain ⟨Fp, Fq, Fi, vo, vp, vc, uo, up, uc, vi, rfl, h1, h2, h3, h4, h5, h6⟩ := h
  obtain ⟨_, _, _, e1, k1⟩ := h1.v
  obtain ⟨_, _, _, e2, k2⟩ := h2.v
  cases e1; cases e2
  exact ⟨_, _, _, _, _, _, _, rfl, k1.mono (fun k hk hlt => ⟨(h4 k hk).1, hlt, rfl⟩), k2.mono (fun k hk hlt => ⟨(h5 k hk).1, hlt, rfl⟩), Rows2.sub (RowsD.rows h3) (fun k hk _ => h6 k hk)⟩
theorem HomW.shape {F : Nat → Prop} {w : World} {v : Value} {P Q : Pr} {Is : List (List Int)} (h : HomW F w v P Q Is) : ∃ a1 c1 a2 c2 a3 c3 a4 c4 a5 c5 a6 c6 a7 c7, v = .agg #[.slice a1 P.orders.length c1, .slice a2 P.powers.length c2, .slice a3 P.conj.length c3, .slice a4 Q.orders.length c4, .slice a5 Q.powers.length c5, .slice a6 Q.conj.length c6, .slice a7 Is.length c7] := by
  obtain ⟨Fp, Fq, Fi, vo, vp, vc, uo, up, uc, vi, rfl, h1, h2, h3, h4, h5, h6⟩ := h
  obtain ⟨a, c, a2, c2, a3, c3, e1⟩ := h1.shape
  obtain ⟨b, d, b2, d2, b3, d3, e2⟩ := h2.shape
  obtain ⟨g, j, e3, _⟩ := SlD.shape h3
  cases e1; cases e2; cases e3
  exact ⟨_, _, _, _, _, _, _, _, _, _, _, _, _, _, rfl⟩

set_option maxRecDepth 100000 in
set_option maxHeartbeats 4000000 in
theorem markHom_ok (v : Value) (P Q : Pr) (Is : List (List Int)) (w : World) (F : Nat → Prop) (h : HomW F w v P Q Is) (hl : sizeH P Q Is ≤ 1048576) :
    Calls Tryz.prog 19 #[v, .int .i64 1] w fun e w' => ∃ q : Int, (0 ≤ q ∧ q ≤ 10000000) ∧ e = .returned (.int .i64 q) ∧ Touch (fun k => F k ∨ w.heap.size ≤ k) w w' := by
  obtain ⟨Fp, Fq, Fi, vo, vp, vc, uo, up, uc, vi, rfl, h1, h2, h3, h4, h5, h6⟩ := h
  have hp : sizeP P ≤ 1048576 := by unfold sizeH at hl; omega
  have hq : sizeP Q ≤ 1048576 := by unfold sizeH at hl; omega
  have hi : tot2 Is ≤ 1048576 := by have := szTo_le Is; unfold sizeH at hl; omega
  have HS := Lib.hid (And.intro hp (And.intro hq hi)); clear hp hq hi hl
  obtain ⟨a, c, a2, c2, a3, c3, e1⟩ := h1.shape
  obtain ⟨b, d, b2, d2, b3, d3, e2⟩ := h2.shape
  obtain ⟨g, j, e3, _⟩ := SlD.shape h3
  cases e1; cases e2; cases e3
  obtain ⟨W0, hW0⟩ : ∃ W0, W0 = w.alloc (.cells #[.slice a P.orders.length c, .slice a2 P.powers.length c2, .slice a3 P.conj.length c3, .slice b Q.orders.length d, .slice b2 Q.powers.length d2, .slice b3 Q.conj.length d3, .slice g Is.length j] 34) := ⟨_, rfl⟩
  have hg0 : Ext w W0 := by rw [hW0]; exact World.grownBy_alloc _ _ _
  have hB : Box7 W0 w.heap.size (.slice a P.orders.length c) (.slice a2 P.powers.length c2) (.slice a3 P.conj.length c3) (.slice b Q.orders.length d) (.slice b2 Q.powers.length d2) (.slice b3 Q.conj.length d3) (.slice g Is.length j) := by rw [hW0]; exact Box7.made _ _ _ _ _ _ _ _ _
  have hfr : ∀ (G : Nat → Prop) k, G k → k < w.heap.size → (G k ∧ k < w.heap.size) ∧ k < W0.heap.size ∧ W0.heap[k]? = w.heap[k]? := fun G k hk hlt => ⟨⟨hk, hlt⟩, Nat.lt_of_lt_of_le hlt hg0.size, hg0.block k hlt (by simp)⟩
  have g1 := h1.mono (hfr Fp)
  have g2 := h2.mono (hfr Fq)
  have g3 := rdRows.mono h3 (hfr Fi)
  have HF := Lib.hid (And.intro h4 (And.intro h5 h6)); clear h1 h2 h3 h4 h5 h6 hfr
  have HB := Lib.hid hB
  obtain ⟨_, x0, x1, x2, x3, x4, x5, x6, _⟩ := hB
  rw [hW0] at x0 x1 x2 x3 x4 x5 x6
  go_enter Tryz.func19, Tryz.ntmps19
  go_wp2_with fail
  clear x0 x1 x2 x3 x4 x5 x6
  rw [← hW0]
  clear hW0
  refine Calls.mono (markPresentationK_ok 1 (by omega) _ P W0 _ g1 HS.out.1) ?_
  rintro eA wA ⟨qA, hqA, rfl, hTA⟩
  have hBA := HB.out.keep hTA.size (hTA.block _ HB.out.1 (fun h => h.elim (fun h => absurd h.2 (Nat.lt_irrefl _)) (fun h => by have hb := HB.out.1; omega)))
  have HBA := Lib.hid hBA
  obtain ⟨_, x0, x1, x2, x3, x4, x5, x6, _⟩ := hBA
  have hw0 : w.heap.size ≤ W0.heap.size := hg0.size
  have g2A := g2.mono (F' := fun k => Fq k ∧ k < w.heap.size) (fun k hk hlt => ⟨hk, Nat.lt_of_lt_of_le hlt hTA.size, hTA.block k hlt (fun h => by
    rcases h with h | h
    · exact (HF.out.1 k h.1).2.1 hk.1
    · have := hk.2; omega)⟩)
  have g3A := rdRows.mono (F' := fun k => Fi k ∧ k < w.heap.size) g3 (fun k hk hlt => ⟨hk, Nat.lt_of_lt_of_le hlt hTA.size, hTA.block k hlt (fun h => by
    rcases h with h | h
    · exact (HF.out.1 k h.1).2.2 hk.1
    · have := hk.2; omega)⟩)
  have hwA : W0.heap.size ≤ wA.heap.size := hTA.size
  go_wp2_with fail
  clear x0 x1 x2 x3 x4 x5 x6
  refine Calls.mono (markPresentationK_ok qA (by omega) _ Q wA _ g2A HS.out.2.1) ?_
  rintro eB wB ⟨qB, hqB, rfl, hTB⟩
  have hBB := HBA.out.keep hTB.size (hTB.block _ HBA.out.1 (fun h => h.elim (fun h => absurd h.2 (Nat.lt_irrefl _)) (fun h => by have hb := HB.out.1; omega)))
  obtain ⟨_, x0, x1, x2, x3, x4, x5, x6, _⟩ := hBB
  have g3B := rdRows.mono (F' := fun k => Fi k ∧ k < w.heap.size) g3A (fun k hk hlt => ⟨hk, Nat.lt_of_lt_of_le hlt hTB.size, hTB.block k hlt (fun h => by
    rcases h with h | h
    · exact (HF.out.2.1 k h.1).2 hk.1
    · have := hk.2; omega)⟩)
  have hwB : wA.heap.size ≤ wB.heap.size := hTB.size
  go_wp2_with fail
  clear x0 x1 x2 x3 x4 x5 x6
  refine Calls.mono (markInt64SS_ok _ Is qB wB _ g3B ⟨by omega, by have := HS.out.2.2; omega⟩) ?_
  rintro eC wC ⟨rfl, hTC, _⟩
  go_wp2
  go_ret
  have t0 : Touch (fun k => F k ∨ w.heap.size ≤ k) w W0 := Touch.of hg0 (fun k hk => by cases hk)
  have t1 : Touch (fun k => F k ∨ w.heap.size ≤ k) w wA := t0.trans hTA (fun _ h => h) (fun k hk => hk.elim (fun h => .inl (HF.out.1 k h.1).1) (fun h => .inr (by omega)))
  have t2 : Touch (fun k => F k ∨ w.heap.size ≤ k) w wB := t1.trans hTB (fun _ h => h) (fun k hk => hk.elim (fun h => .inl (HF.out.2.1 k h.1).1) (fun h => .inr (by omega)))
  have t3 : Touch (fun k => F k ∨ w.heap.size ≤ k) w wC := t2.trans hTC (fun _ h => h) (fun k hk => .inl (HF.out.2.2 k hk.1))
  exact ⟨_, ⟨by omega, by have := HS.out.2.2; omega⟩, rfl, t3⟩

theorem grown_set (W : World) (b i : Nat) (v : Value) : W.grownBy (W.setCell ⟨b, i, none⟩ v) (some b) :=
  ⟨rfl, rfl, rfl, by simp [World.setCell], fun j _ hj => Below.heap_setCell _ _ _ _ (by intro e; exact hj (by rw [e]))⟩
theorem Box7.put0 {W : World} {b : Nat} {x0 x1 x2 x3 x4 x5 x6 : Value} (h : Box7 W b x0 x1 x2 x3 x4 x5 x6) (v : Value) : Box7 (W.setCell ⟨b, 0, none⟩ v) b v x1 x2 x3 x4 x5 x6 := by
  obtain ⟨h0, c0, c1, c2, c3, c4, c5, c6, f⟩ := h
  exact ⟨by simpa [World.setCell] using h0, World.cell?_setCell_same _ _ _ c0, (World.cell?_setCell_other _ _ _ _ (by simp)).trans c1, (World.cell?_setCell_other _ _ _ _ (by simp)).trans c2, (World.cell?_setCell_other _ _ _ _ (by simp)).trans c3, (World.cell?_setCell_other _ _ _ _ (by simp)).trans c4, (World.cell?_setCell_other _ _ _ _ (by simp)).trans c5, (World.cell?_setCell_other _ _ _ _ (by simp)).trans c6, fun k => by simp [f]⟩
theorem Box7.put1 {W : World} {b : Nat} {x0 x1 x2 x3 x4 x5 x6 : Value} (h : Box7 W b x0 x1 x2 x3 x4 x5 x6) (v : Value) : Box7 (W.setCell ⟨b, 1, none⟩ v) b x0 v x2 x3 x4 x5 x6 := by
  obtain ⟨h0, c0, c1, c2, c3, c4, c5, c6, f⟩ := h
  exact ⟨by simpa [World.setCell] using h0, (World.cell?_setCell_other _ _ _ _ (by simp)).trans c0, World.cell?_setCell_same _ _ _ c1, (World.cell?_setCell_other _ _ _ _ (by simp)).trans c2, (World.cell?_setCell_other _ _ _ _ (by simp)).trans c3, (World.cell?_setCell_other _ _ _ _ (by simp)).trans c4, (World.cell?_setCell_other _ _ _ _ (by simp)).trans c5, (World.cell?_setCell_other _ _ _ _ (by simp)).trans c6, fun k => by simp [f]⟩
theorem Box7.put2 {W : World} {b : Nat} {x0 x1 x2 x3 x4 x5 x6 : Value} (h : Box7 W b x0 x1 x2 x3 x4 x5 x6) (v : Value) : Box7 (W.setCell ⟨b, 2, none⟩ v) b x0 x1 v x3 x4 x5 x6 := by
  obtain ⟨h0, c0, c1, c2, c3, c4, c5, c6, f⟩ := h
  exact ⟨by simpa [World.setCell] using h0, (World.cell?_setCell_other _ _ _ _ (by simp)).trans c0, (World.cell?_setCell_other _ _ _ _ (by simp)).trans c1, World.cell?_setCell_same _ _ _ c2, (World.cell?_setCell_other _ _ _ _ (by simp)).trans c3, (World.cell?_setCell_other _ _ _ _ (by simp)).trans c4, (World.cell?_setCell_other _ _ _ _ (by simp)).trans c5, (World.cell?_setCell_other _ _ _ _ (by simp)).trans c6, fun k => by simp [f]⟩
theorem Box7.put3 {W : World} {b : Nat} {x0 x1 x2 x3 x4 x5 x6 : Value} (h : Box7 W b x0 x1 x2 x3 x4 x5 x6) (v : Value) : Box7 (W.setCell ⟨b, 3, none⟩ v) b x0 x1 x2 v x4 x5 x6 := by
  obtain ⟨h0, c0, c1, c2, c3, c4, c5, c6, f⟩ := h
  exact ⟨by simpa [World.setCell] using h0, (World.cell?_setCell_other _ _ _ _ (by simp)).trans c0, (World.cell?_setCell_other _ _ _ _ (by simp)).trans c1, (World.cell?_setCell_other _ _ _ _ (by simp)).trans c2, World.cell?_setCell_same _ _ _ c3, (World.cell?_setCell_other _ _ _ _ (by simp)).trans c4, (World.cell?_setCell_other _ _ _ _ (by simp)).trans c5, (World.cell?_setCell_other _ _ _ _ (by simp)).trans c6, fun k => by simp [f]⟩
theorem Box7.put4 {W : World} {b : Nat} {x0 x1 x2 x3 x4 x5 x6 : Value} (h : Box7 W b x0 x1 x2 x3 x4 x5 x6) (v : Value) : Box7 (W.setCell ⟨b, 4, none⟩ v) b x0 x1 x2 x3 v x5 x6 := by
  obtain ⟨h0, c0, c1, c2, c3, c4, c5, c6, f⟩ := h
  exact ⟨by simpa [World.setCell] using h0, (World.cell?_setCell_other _ _ _ _ (by simp)).trans c0, (World.cell?_setCell_other _ _ _ _ (by simp)).trans c1, (World.cell?_setCell_other _ _ _ _ (by simp)).trans c2, (World.cell?_setCell_other _ _ _ _ (by simp)).trans c3, World.cell?_setCell_same _ _ _ c4, (World.cell?_setCell_other _ _ _ _ (by simp)).trans c5, (World.cell?_setCell_other _ _ _ _ (by simp)).trans c6, fun k => by simp [f]⟩
theorem Box7.put5 {W : World} {b : Nat} {x0 x1 x2 x3 x4 x5 x6 : Value} (h : Box7 W b x0 x1 x2 x3 x4 x5 x6) (v : Value) : Box7 (W.setCell ⟨b, 5, none⟩ v) b x0 x1 x2 x3 x4 v x6 := by
  obtain ⟨h0, c0, c1, c2, c3, c4, c5, c6, f⟩ := h
  exact ⟨by simpa [World.setCell] using h0, (World.cell?_setCell_other _ _ _ _ (by simp)).trans c0, (World.cell?_setCell_other _ _ _ _ (by simp)).trans c1, (World.cell?_setCell_other _ _ _ _ (by simp)).trans c2, (World.cell?_setCell_other _ _ _ _ (by simp)).trans c3, (World.cell?_setCell_other _ _ _ _ (by simp)).trans c4, World.cell?_setCell_same _ _ _ c5, (World.cell?_setCell_other _ _ _ _ (by simp)).trans c6, fun k => by simp [f]⟩
theorem Box7.put6 {W : World} {b : Nat} {x0 x1 x2 x3 x4 x5 x6 : Value} (h : Box7 W b x0 x1 x2 x3 x4 x5 x6) (v : Value) : Box7 (W.setCell ⟨b, 6, none⟩ v) b x0 x1 x2 x3 x4 x5 v := by
  obtain ⟨h0, c0, c1, c2, c3, c4, c5, c6, f⟩ := h
  exact ⟨by simpa [World.setCell] using h0, (World.cell?_setCell_other _ _ _ _ (by simp)).trans c0, (World.cell?_setCell_other _ _ _ _ (by simp)).trans c1, (World.cell?_setCell_other _ _ _ _ (by simp)).trans c2, (World.cell?_setCell_other _ _ _ _ (by simp)).trans c3, (World.cell?_setCell_other _ _ _ _ (by simp)).trans c4, (World.cell?_setCell_other _ _ _ _ (by simp)).trans c5, World.cell?_setCell_same _ _ _ c6, fun k => by simp [f]⟩

set_option maxRecDepth 100000 in
set_option maxHeartbeats 4000000 in
theorem toHom_ok (v : Value) (P Q : Pr) (Is : List (List Int)) (w : World) (S : Nat → Prop) (h : HomV S w v P Q Is) (hl : sizeH P Q Is ≤ 1048576) :
    Calls Tryz.prog 15 #[v] w (Ret w fun w' r => HomW (From w.heap.size) w' r P Q Is) := by
  obtain ⟨vo, vp, vc, uo, up, uc, vi, rfl, h1, h2, h3⟩ := h
  have hso : sizeP P ≤ 1048576 := by unfold sizeH at hl; omega
  have hsp : sizeP Q ≤ 1048576 := by unfold sizeH at hl; omega
  have hsc : size2 Is ≤ 1048576 := by unfold sizeH at hl; omega
  have HS := Lib.hid (And.intro hso (And.intro hsp hsc)); clear hso hsp hsc hl
  obtain ⟨W1, hW1⟩ : ∃ W1, W1 = w.alloc (.cells #[vo, vp, vc, uo, up, uc, vi] 28) := ⟨_, rfl⟩
  obtain ⟨W2, hW2⟩ : ∃ W2, W2 = W1.alloc (.cells #[.slice none 0 0, .slice none 0 0, .slice none 0 0, .slice none 0 0, .slice none 0 0, .slice none 0 0, .slice none 0 0] 34) := ⟨_, rfl⟩
  obtain ⟨W3, hW3⟩ : ∃ W3, W3 = W2.alloc (.cells #[.slice none 0 0, .slice none 0 0, .slice none 0 0, .slice none 0 0, .slice none 0 0, .slice none 0 0, .slice none 0 0] 34) := ⟨_, rfl⟩
  have e1 : W1.heap.size = w.heap.size + 1 := by rw [hW1]; simp
  have e2 : W2.heap.size = w.heap.size + 1 + 1 := by rw [hW2]; simp [e1]
  have e3 : W3.heap.size = w.heap.size + 1 + 1 + 1 := by rw [hW3]; simp [e2]
  have hg1 : Ext w W1 := by rw [hW1]; exact World.grownBy_alloc _ _ _
  have hg2 : Ext W1 W2 := by rw [hW2]; exact World.grownBy_alloc _ _ _
  have hg3 : Ext W2 W3 := by rw [hW3]; exact World.grownBy_alloc _ _ _
  have hA : Box7 W3 w.heap.size vo vp vc uo up uc vi := Box7.ext (Box7.ext (by rw [hW1]; exact Box7.made _ _ _ _ _ _ _ _ _) hg2) hg3
  have hR : Box7 W3 (w.heap.size + 1) (.slice none 0 0) (.slice none 0 0) (.slice none 0 0) (.slice none 0 0) (.slice none 0 0) (.slice none 0 0) (.slice none 0 0) := Box7.ext (by rw [← e1, hW2]; exact Box7.made _ _ _ _ _ _ _ _ _) hg3
  have hO : Box7 W3 (w.heap.size + 1 + 1) (.slice none 0 0) (.slice none 0 0) (.slice none 0 0) (.slice none 0 0) (.slice none 0 0) (.slice none 0 0) (.slice none 0 0) := by rw [← e2, hW3]; exact Box7.made _ _ _ _ _ _ _ _ _
  have hg0 : Ext w W3 := grown_trans hg1 (grown_trans hg2 hg3)
  have HB := Lib.hid (And.intro hA (And.intro hR hO)); clear hA hR hO hg1 hg2 hg3
  go_enter Tryz.func15, Tryz.ntmps15
  go_wp2_with fail
  rw [← hW1, ← hW2, ← hW3]
  clear hW1 hW2 hW3 e1 e2
  refine Calls.mono (toPresentation_ok _ P W3 S ⟨_, _, _, rfl, h1.ext hg0⟩ HS.out.1) ?_
  rintro eA wA ⟨vA, rfl, hgA, hpA⟩
  obtain ⟨a1, c1, a2, c2, a3, c3, rfl⟩ := hpA.shape
  obtain ⟨_, x0, x1, x2, x3, x4, x5, x6, _⟩ := HB.out.1.ext hgA
  obtain ⟨_, o0, o1, o2, o3, o4, o5, o6, of⟩ := HB.out.2.2.ext hgA
  have bO1 := ((HB.out.2.2.ext hgA).put0 (.slice a1 P.orders.length c1)).put1 (.slice a2 P.powers.length c2) |>.put2 (.slice a3 P.conj.length c3)
  have gS1 := grown_trans (grown_trans (grown_set wA (w.heap.size + 1 + 1) 0 (.slice a1 P.orders.length c1)) (grown_set _ (w.heap.size + 1 + 1) 1 (.slice a2 P.powers.length c2))) (grown_set _ (w.heap.size + 1 + 1) 2 (.slice a3 P.conj.length c3))
  have hwA : W3.heap.size ≤ wA.heap.size := hgA.size
  obtain ⟨V1, hV1⟩ : ∃ V1, V1 = ((wA.setCell ⟨w.heap.size + 1 + 1, 0, none⟩ (.slice a1 P.orders.length c1)).setCell ⟨w.heap.size + 1 + 1, 1, none⟩ (.slice a2 P.powers.length c2)).setCell ⟨w.heap.size + 1 + 1, 2, none⟩ (.slice a3 P.conj.length c3) := ⟨_, rfl⟩
  rw [← hV1] at bO1 gS1
  have hgV1 : Ext w V1 := grown_own (grown_trans hg0 hgA) gS1 (fun j hj hlt => by cases hj; omega)
  have bA1 := (HB.out.1.ext hgA).keep gS1.size (gS1.block _ (HB.out.1.ext hgA).1 (by simp; omega))
  have bR1 := (HB.out.2.1.ext hgA).keep gS1.size (gS1.block _ (HB.out.2.1.ext hgA).1 (by simp))
  have p1 : PresW (fun k => W3.heap.size ≤ k ∧ k < wA.heap.size) V1 (.agg #[.slice a1 P.orders.length c1, .slice a2 P.powers.length c2, .slice a3 P.conj.length c3]) P :=
    hpA.mono (fun k hk hlt => ⟨⟨hk, hlt⟩, Nat.lt_of_lt_of_le hlt gS1.size, gS1.block k hlt (fun e => by cases e; have hk : W3.heap.size ≤ _ := hk; omega)⟩)
  have hsV1 : wA.heap.size ≤ V1.heap.size := gS1.size
  have H1 := Lib.hid (And.intro bA1 (And.intro bR1 (And.intro bO1 p1))); clear bA1 bR1 bO1 p1 gS1 hpA
  go_wp2_with fail
  rw [← hV1]
  clear hV1 x0 x1 x2 x3 x4 x5 x6 o0 o1 o2 o3 o4 o5 o6 of
  refine Calls.mono (toPresentation_ok _ Q V1 S ⟨_, _, _, rfl, h2.ext hgV1⟩ HS.out.2.1) ?_
  rintro eB wB ⟨vB, rfl, hgB, hpB⟩
  obtain ⟨b1, d1, b2, d2, b3, d3, rfl⟩ := hpB.shape
  obtain ⟨_, x0, x1, x2, x3, x4, x5, x6, _⟩ := H1.out.1.ext hgB
  obtain ⟨_, o0, o1, o2, o3, o4, o5, o6, of⟩ := H1.out.2.2.1.ext hgB
  have bO2 := ((H1.out.2.2.1.ext hgB).put3 (.slice b1 Q.orders.length d1)).put4 (.slice b2 Q.powers.length d2) |>.put5 (.slice b3 Q.conj.length d3)
  have gS2 := grown_trans (grown_trans (grown_set wB (w.heap.size + 1 + 1) 3 (.slice b1 Q.orders.length d1)) (grown_set _ (w.heap.size + 1 + 1) 4 (.slice b2 Q.powers.length d2))) (grown_set _ (w.heap.size + 1 + 1) 5 (.slice b3 Q.conj.length d3))
  have hwB : V1.heap.size ≤ wB.heap.size := hgB.size
  obtain ⟨V2, hV2⟩ : ∃ V2, V2 = ((wB.setCell ⟨w.heap.size + 1 + 1, 3, none⟩ (.slice b1 Q.orders.length d1)).setCell ⟨w.heap.size + 1 + 1, 4, none⟩ (.slice b2 Q.powers.length d2)).setCell ⟨w.heap.size + 1 + 1, 5, none⟩ (.slice b3 Q.conj.length d3) := ⟨_, rfl⟩
  rw [← hV2] at bO2 gS2
  have hgV2 : Ext w V2 := grown_own (grown_trans hgV1 hgB) gS2 (fun j hj hlt => by cases hj; omega)
  have bA2 := (H1.out.1.ext hgB).keep gS2.size (gS2.block _ (H1.out.1.ext hgB).1 (by simp; omega))
  have bR2 := (H1.out.2.1.ext hgB).keep gS2.size (gS2.block _ (H1.out.2.1.ext hgB).1 (by simp))
  have p1 := H1.out.2.2.2.mono (F' := fun k => W3.heap.size ≤ k ∧ k < wA.heap.size) (fun k hk hlt => ⟨hk, Nat.lt_of_lt_of_le hlt (Nat.le_trans hgB.size gS2.size), (gS2.block k (Nat.lt_of_lt_of_le hlt hgB.size) (fun e => by cases e; have := hk.1; omega)).trans (hgB.block k hlt (by simp))⟩)
  have p2 : PresW (fun k => V1.heap.size ≤ k ∧ k < wB.heap.size) V2 (.agg #[.slice b1 Q.orders.length d1, .slice b2 Q.powers.length d2, .slice b3 Q.conj.length d3]) Q :=
    hpB.mono (fun k hk hlt => ⟨⟨hk, hlt⟩, Nat.lt_of_lt_of_le hlt gS2.size, gS2.block k hlt (fun e => by cases e; have hk : V1.heap.size ≤ _ := hk; omega)⟩)
  have hsV2 : wB.heap.size ≤ V2.heap.size := gS2.size
  have H2 := Lib.hid (And.intro bA2 (And.intro bR2 (And.intro bO2 (And.intro p1 p2)))); clear bA2 bR2 bO2 p1 p2 gS2 hpB H1
  go_wp2_with fail
  rw [← hV2]
  clear hV2 x0 x1 x2 x3 x4 x5 x6 o0 o1 o2 o3 o4 o5 o6 of
  refine Calls.mono (toInt64SS_ok _ Is V2 S (Rows2.ext h3 hgV2) HS.out.2.2) ?_
  rintro eC wC ⟨vC, rfl, hgC, hC⟩
  have hlI : Is.length ≤ 1048576 := by have := HS.out.2.2; unfold size2 at this; omega
  have hCd := SlO.toD hC (by omega)
  obtain ⟨g1, j1, rfl, _, _⟩ := SlD.shape hCd
  obtain ⟨_, o0, o1, o2, o3, o4, o5, o6, of⟩ := H2.out.2.2.1.ext hgC
  obtain ⟨_, r0, r1, r2, r3, r4, r5, r6, rf'⟩ := H2.out.2.1.ext hgC
  have gS3 := grown_set wC (w.heap.size + 1 + 1) 6 (.slice g1 Is.length j1)
  have bO3 := (H2.out.2.2.1.ext hgC).put6 (.slice g1 Is.length j1)
  have bR3 := (H2.out.2.1.ext hgC).keep gS3.size (gS3.block _ (H2.out.2.1.ext hgC).1 (by simp))
  obtain ⟨_, q0, q1, q2, q3, q4, q5, q6, qf⟩ := bO3
  have bF := (((((((bR3.put0 (.slice a1 P.orders.length c1)).put1 (.slice a2 P.powers.length c2)).put2 (.slice a3 P.conj.length c3)).put3 (.slice b1 Q.orders.length d1)).put4 (.slice b2 Q.powers.length d2)).put5 (.slice b3 Q.conj.length d3)).put6 (.slice g1 Is.length j1))
  have gF := (grown_trans (grown_trans (grown_trans (grown_trans (grown_trans (grown_trans (grown_set (wC.setCell ⟨w.heap.size + 1 + 1, 6, none⟩ (.slice g1 Is.length j1)) (w.heap.size + 1) 0 (.slice a1 P.orders.length c1)) (grown_set _ (w.heap.size + 1) 1 (.slice a2 P.powers.length c2))) (grown_set _ (w.heap.size + 1) 2 (.slice a3 P.conj.length c3))) (grown_set _ (w.heap.size + 1) 3 (.slice b1 Q.orders.length d1))) (grown_set _ (w.heap.size + 1) 4 (.slice b2 Q.powers.length d2))) (grown_set _ (w.heap.size + 1) 5 (.slice b3 Q.conj.length d3))) (grown_set _ (w.heap.size + 1) 6 (.slice g1 Is.length j1)))
  obtain ⟨_, s0, s1, s2, s3, s4, s5, s6, sf⟩ := bR3
  obtain ⟨VF, hVF⟩ : ∃ VF, VF = (World.setCell (World.setCell (World.setCell (World.setCell (World.setCell (World.setCell (World.setCell (wC.setCell ⟨w.heap.size + 1 + 1, 6, none⟩ (.slice g1 Is.length j1)) ⟨w.heap.size + 1, 0, none⟩ (.slice a1 P.orders.length c1)) ⟨w.heap.size + 1, 1, none⟩ (.slice a2 P.powers.length c2)) ⟨w.heap.size + 1, 2, none⟩ (.slice a3 P.conj.length c3)) ⟨w.heap.size + 1, 3, none⟩ (.slice b1 Q.orders.length d1)) ⟨w.heap.size + 1, 4, none⟩ (.slice b2 Q.powers.length d2)) ⟨w.heap.size + 1, 5, none⟩ (.slice b3 Q.conj.length d3)) ⟨w.heap.size + 1, 6, none⟩ (.slice g1 Is.length j1)) := ⟨_, rfl⟩
  have HF := Lib.hid (And.intro bF gF); clear bF gF
  go_wp2
  have hbF := HF.out.1
  have hgF := HF.out.2
  rw [← hVF] at hbF hgF
  rw [← hVF]
  clear hVF q0 q1 q2 q3 q4 q5 q6 qf s0 s1 s2 s3 s4 s5 s6 sf r0 r1 r2 r3 r4 r5 r6 rf' o0 o1 o2 o3 o4 o5 o6 of
  obtain ⟨_, t0, t1, t2, t3, t4, t5, t6, _⟩ := hbF
  have hwC : V2.heap.size ≤ wC.heap.size := hgC.size
  have hblk : ∀ k, w.heap.size + 1 + 1 < k → k < wC.heap.size → k < VF.heap.size ∧ VF.heap[k]? = wC.heap[k]? := fun k hk hlt =>
    ⟨Nat.lt_of_lt_of_le hlt (Nat.le_trans gS3.size hgF.size), (hgF.block k (Nat.lt_of_lt_of_le hlt gS3.size) (fun e => by cases e; omega)).trans (gS3.block k hlt (fun e => by cases e; omega))⟩
  have hgwF : Ext w VF := grown_own (grown_own (grown_trans hgV2 hgC) gS3 (fun j hj hlt => by cases hj; omega)) hgF (fun j hj hlt => by cases hj; omega)
  refine bodyPost_ret (v := .agg #[.slice a1 P.orders.length c1, .slice a2 P.powers.length c2, .slice a3 P.conj.length c3, .slice b1 Q.orders.length d1, .slice b2 Q.powers.length d2, .slice b3 Q.conj.length d3, .slice g1 Is.length j1]) (by simp [results, Tryz.results15, go_sem, t0, t1, t2, t3, t4, t5, t6]) rfl ⟨_, rfl, hgwF, ?_⟩
  refine ⟨fun k => W3.heap.size ≤ k ∧ k < wA.heap.size, fun k => V1.heap.size ≤ k ∧ k < wB.heap.size, fun k => V2.heap.size ≤ k, _, _, _, _, _, _, _, rfl, H2.out.2.2.2.1.mono (fun k hk hlt => ⟨hk, ?_⟩), H2.out.2.2.2.2.mono (fun k hk hlt => ⟨hk, ?_⟩), rdRows.mono hCd (fun k hk hlt => ⟨hk, hblk k (by have hk : V2.heap.size ≤ k := hk; omega) hlt⟩), fun k hk => ?_, fun k hk => ?_, fun k hk => ?_⟩
  · obtain ⟨e1, e2⟩ := hblk k (by omega) (by omega)
    exact ⟨e1, e2.trans (hgC.block k hlt (by simp))⟩
  · obtain ⟨e1, e2⟩ := hblk k (by omega) (by omega)
    exact ⟨e1, e2.trans (hgC.block k hlt (by simp))⟩
  · exact ⟨by show w.heap.size ≤ k; omega, by omega, by omega⟩
  · exact ⟨by show w.heap.size ≤ k; omega, by omega⟩
  · have hk : V2.heap.size ≤ k := hk
    show w.heap.size ≤ k; omega

end Go.Proofs.YtchbegeklckgnaaGreat
