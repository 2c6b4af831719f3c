/-
  laws.toPresentation: a copy of a presentation, each part in blocks of its own.
-/
import Derived.Test.YtdfjgpioaomceaaLTo
namespace Go.Proofs.Ytdfjgpioaomceaa
open Go.RowKit

/-- a presentation by value whose parts lie in blocks of their own, all in F -/
def PresW (F : Nat → Prop) (w : World) (v : Value) (P : Pr) : Prop :=
  ∃ vo vp vc Fo Fp Fc, v = .agg #[vo, vp, vc] ∧ OwnIn Fo w vo P.orders ∧ RowsW Fp w vp P.powers ∧ Rows3W Fc w vc P.conj ∧
    (∀ k, Fo k → F k ∧ ¬ Fp k ∧ ¬ Fc k) ∧ (∀ k, Fp k → F k ∧ ¬ Fc k) ∧ (∀ k, Fc k → F k)

theorem PresW.mono {F F' : Nat → Prop} {w w' : World} {v : Value} {P : Pr} (h : PresW F w v P) (hb : ∀ k, F k → k < w.heap.size → F' k ∧ k < w'.heap.size ∧ w'.heap[k]? = w.heap[k]?) : PresW F' w' v P := by
  obtain ⟨vo, vp, vc, Fo, Fp, Fc, rfl, h1, h2, h3, h4, h5, h6⟩ := h
  refine ⟨vo, vp, vc, fun k => Fo k ∧ k < w.heap.size, fun k => Fp k ∧ k < w.heap.size, fun k => Fc k ∧ k < w.heap.size, rfl, rdOwn.mono h1 (fun k hk hlt => ⟨⟨hk, hlt⟩, (hb k (h4 k hk).1 hlt).2⟩),
    rdRowsW.mono h2 (fun k hk hlt => ⟨⟨hk, hlt⟩, (hb k (h5 k hk).1 hlt).2⟩), SlD.mono rdRowsW h3 (fun k hk hlt => ⟨⟨hk, hlt⟩, (hb k (h6 k hk) hlt).2⟩), fun k hk => ?_, fun k hk => ?_, fun k hk => ?_⟩
  · exact ⟨(hb k (h4 k hk.1).1 hk.2).1, fun h => (h4 k hk.1).2.1 h.1, fun h => (h4 k hk.1).2.2 h.1⟩
  · exact ⟨(hb k (h5 k hk.1).1 hk.2).1, fun h => (h5 k hk.1).2 h.1⟩
  · exact (hb k (h6 k hk.1) hk.2).1

theorem PresW.ext {F : Nat → Prop} {w w' : World} {v : Value} {P : Pr} (h : PresW F w v P) (hg : Ext w w') : PresW F w' v P := h.mono (frame_ext hg)

theorem PresW.v {F : Nat → Prop} {w : World} {v : Value} {P : Pr} (h : PresW F w v P) : PresV F w v P := by
  obtain ⟨vo, vp, vc, Fo, Fp, Fc, rfl, h1, h2, h3, h4, h5, h6⟩ := h
  exact ⟨vo, vp, vc, rfl, ⟨Ints.sub h1.ints (fun k hk _ => (h4 k hk).1), Rows2.sub (RowsD.rows (RowsW.d h2)) (fun k hk _ => (h5 k hk).1), Rows3.sub (Rows3D.rows (Rows3W.d h3)) (fun k hk _ => h6 k hk)⟩⟩

theorem PresW.shape {F : Nat → Prop} {w : World} {v : Value} {P : Pr} (h : PresW F w v P) : ∃ a c a2 c2 a3 c3, v = .agg #[.slice a P.orders.length c, .slice a2 P.powers.length c2, .slice a3 P.conj.length c3] := by
  obtain ⟨vo, vp, vc, Fo, Fp, Fc, rfl, h1, h2, h3, _⟩ := h
  obtain ⟨a, c, rfl, _⟩ := h1.ints.shape
  obtain ⟨a2, c2, rfl, _⟩ := SlD.shape h2
  obtain ⟨a3, c3, rfl, _⟩ := SlD.shape h3
  exact ⟨_, _, _, _, _, _, rfl⟩

theorem ext_store {w wB : World} {rc : Nat} (hg : Ext w wB) (hrc : w.heap.size ≤ rc) (k : Nat) (v : Value) : Ext w (wB.setCell ⟨rc, k, none⟩ v) :=
  grown_own hg ⟨rfl, rfl, rfl, by simp [World.setCell], fun j _ hj => Below.heap_setCell _ _ _ _ (by intro e; exact hj (by rw [e]))⟩ (q := some rc) (fun j hj hlt => by cases hj; omega)

/-- a struct of three cells that may be written -/
def Box3 (W : World) (b : Nat) (x0 x1 x2 : Value) : Prop :=
  b < W.heap.size ∧ W.cell? ⟨b, 0, none⟩ = some x0 ∧ W.cell? ⟨b, 1, none⟩ = some x1 ∧ W.cell? ⟨b, 2, none⟩ = some x2 ∧ ∀ k, W.frozen? ⟨b, k, none⟩ = false
theorem Box3.ext {W W' : World} {b : Nat} {x0 x1 x2 : Value} (h : Box3 W b x0 x1 x2) (hg : Ext W W') : Box3 W' b x0 x1 x2 := by
  obtain ⟨h0, h1, h2, h3, h4⟩ := h
  exact ⟨Nat.lt_of_lt_of_le h0 hg.size, hg.cell h1 (by simp), hg.cell h2 (by simp), hg.cell h3 (by simp), fun k => (World.frozen?_of_block (w := W) (hg.block b h0 (by simp))).trans (h4 k)⟩
theorem Box3.far {W : World} {b c j : Nat} {x0 x1 x2 v : Value} (h : Box3 W b x0 x1 x2) (hne : b ≠ c) : Box3 (W.setCell ⟨c, j, none⟩ v) b x0 x1 x2 := by
  obtain ⟨h0, h1, h2, h3, h4⟩ := h
  have e : (W.setCell ⟨c, j, none⟩ v).heap[b]? = W.heap[b]? := Below.heap_setCell _ _ _ _ (by simpa using hne)
  exact ⟨by simpa [World.setCell] using h0, (World.cell?_of_block (w := W) e).trans h1, (World.cell?_of_block (w := W) e).trans h2, (World.cell?_of_block (w := W) e).trans h3, fun k => (World.frozen?_of_block (w := W) e).trans (h4 k)⟩
theorem Box3.put {W : World} {b : Nat} {x0 x1 x2 : Value} (h : Box3 W b x0 x1 x2) (v : Value) :
    Box3 (W.setCell ⟨b, 0, none⟩ v) b v x1 x2 ∧ Box3 (W.setCell ⟨b, 1, none⟩ v) b x0 v x2 ∧ Box3 (W.setCell ⟨b, 2, none⟩ v) b x0 x1 v := by
  obtain ⟨h0, h1, h2, h3, h4⟩ := h
  have hs : ∀ k, b < (W.setCell ⟨b, k, none⟩ v).heap.size := fun k => by simpa [World.setCell] using h0
  refine ⟨⟨hs 0, World.cell?_setCell_same _ _ _ h1, ?_, ?_, fun k => by simp [h4]⟩, ⟨hs 1, ?_, World.cell?_setCell_same _ _ _ h2, ?_, fun k => by simp [h4]⟩, ⟨hs 2, ?_, ?_, World.cell?_setCell_same _ _ _ h3, fun k => by simp [h4]⟩⟩
  all_goals first
    | exact (World.cell?_setCell_other _ _ _ _ (by simp)).trans h1
    | exact (World.cell?_setCell_other _ _ _ _ (by simp)).trans h2
    | exact (World.cell?_setCell_other _ _ _ _ (by simp)).trans h3
theorem Box3.made (w : World) (T : Nat) (x0 x1 x2 : Value) : Box3 (w.alloc (.cells #[x0, x1, x2] T)) w.heap.size x0 x1 x2 := by
  refine ⟨by simp, ?_, ?_, ?_, fun k => World.frozen?_alloc_at _ _ _ _ rfl⟩ <;> (rw [World.cell?_alloc_at _ _ _ _ rfl]; rfl)

set_option maxRecDepth 100000 in
set_option maxHeartbeats 4000000 in
theorem toPresentation_ok (v : Value) (P : Pr) (w : World) (S : Nat → Prop) (h : PresV S w v P) (hl : sizeP P ≤ 1048576) :
    Calls Try.prog 6 #[v] w (Ret w fun w' r => PresW (From w.heap.size) w' r P) := by
  obtain ⟨vo, vp, vc, rfl, h3⟩ := h
  have hso : P.orders.length ≤ 1048576 := by unfold sizeP at hl; omega
  have hsp : size2 P.powers ≤ 1048576 := by unfold sizeP at hl; omega
  have hsc : size3 P.conj ≤ 1048576 := by unfold sizeP at hl; omega
  have HS := Lib.hid (And.intro hso (And.intro hsp hsc)); clear hso hsp hsc hl
  go_enter Try.func6, Try.ntmps6
  have hg0 : Ext w (((w.alloc (.cells #[vo, vp, vc] 26)).alloc (.cells #[.slice none 0 0, .slice none 0 0, .slice none 0 0] 30)).alloc (.cells #[.slice none 0 0, .slice none 0 0, .slice none 0 0] 30)) :=
    grown_trans (World.grownBy_alloc _ _ _) (grown_trans (World.grownBy_alloc _ _ _) (World.grownBy_alloc _ _ _))
  have hA0 : Box3 (((w.alloc (.cells #[vo, vp, vc] 26)).alloc (.cells #[.slice none 0 0, .slice none 0 0, .slice none 0 0] 30)).alloc (.cells #[.slice none 0 0, .slice none 0 0, .slice none 0 0] 30)) w.heap.size vo vp vc :=
    ((Box3.made w _ vo vp vc).ext (World.grownBy_alloc _ _ _)).ext (World.grownBy_alloc _ _ _)
  have hR0 := (Box3.made (w.alloc (.cells #[vo, vp, vc] 26)) 30 (.slice none 0 0) (.slice none 0 0) (.slice none 0 0)).ext (World.grownBy_alloc _ (.cells #[.slice none 0 0, .slice none 0 0, .slice none 0 0] 30) _)
  have hO0 := Box3.made ((w.alloc (.cells #[vo, vp, vc] 26)).alloc (.cells #[.slice none 0 0, .slice none 0 0, .slice none 0 0] 30)) 30 (.slice none 0 0) (.slice none 0 0) (.slice none 0 0)
  have hs1 : (w.alloc (.cells #[vo, vp, vc] 26)).heap.size = w.heap.size + 1 := by simp
  have hs2 : ((w.alloc (.cells #[vo, vp, vc] 26)).alloc (.cells #[.slice none 0 0, .slice none 0 0, .slice none 0 0] 30)).heap.size = w.heap.size + 1 + 1 := by simp
  rw [hs1] at hR0
  rw [hs2] at hO0
  have HB := Lib.hid (And.intro hA0 (And.intro hR0 hO0)); clear hA0 hR0 hO0 hs1 hs2
  go_wp2_with fail
  generalize hw0 : ((w.alloc (.cells #[vo, vp, vc] 26)).alloc (.cells #[.slice none 0 0, .slice none 0 0, .slice none 0 0] 30)).alloc (.cells #[.slice none 0 0, .slice none 0 0, .slice none 0 0] 30) = w0 at *
  clear hw0
  have hsz0 : w.heap.size + 1 + 1 < w0.heap.size := HB.out.2.2.1
  refine Calls.mono (toInt64S_ok _ _ _ _ (h3.o.ext hg0) HS.out.1) ?_
  rintro eA wA ⟨vA, rfl, hgA, hA⟩
  have hAi := hA.ints (by have := HS.out.1; omega)
  obtain ⟨aA, capA, rfl, _, _⟩ := hAi.shape
  clear hAi
  have a1 := (HB.out.1.ext hgA)
  have r1 := (HB.out.2.1.ext hgA)
  have o1 := (HB.out.2.2.ext hgA)
  have hgwA := grown_trans hg0 hgA
  have hgw1 := ext_store hgwA (show w.heap.size ≤ w.heap.size + 1 + 1 by omega) 0 (.slice aA P.orders.length capA)
  have hlA := hgA.size
  have o2 := (o1.put (.slice aA P.orders.length capA)).1
  have a2 := a1.far (c := w.heap.size + 1 + 1) (j := 0) (v := .slice aA P.orders.length capA) (by omega)
  have r2 := r1.far (c := w.heap.size + 1 + 1) (j := 0) (v := .slice aA P.orders.length capA) (by omega)
  have hA2 : OwnIn (fun k => w0.heap.size ≤ k ∧ k < wA.heap.size) (wA.setCell ⟨w.heap.size + 1 + 1, 0, none⟩ (.slice aA P.orders.length capA)) (.slice aA P.orders.length capA) P.orders :=
    rdOwn.mono (OwnIn.of (F := fun k => w0.heap.size ≤ k ∧ k < wA.heap.size) hA (by have := HS.out.1; omega) (fun k h1 h2 => ⟨h1, h2⟩)) (fun k hk hlt => ⟨hk, by simpa [World.setCell] using hlt, Below.heap_setCell _ _ _ _ (by have := hk.1; simp; omega)⟩)
  have HW := Lib.hid (And.intro a2 (And.intro r2 (And.intro o2 hA2))); clear a2 r2 o2 hA2 hA
  obtain ⟨_, ca0, ca1, ca2, _⟩ := a1
  obtain ⟨_, co0, co1, co2, cof⟩ := o1
  clear r1
  go_wp2_with fail
  clear ca0 ca1 ca2 co0 co1 co2 cof
  have hszs : (wA.setCell ⟨w.heap.size + 1 + 1, 0, none⟩ (.slice aA P.orders.length capA)).heap.size = wA.heap.size := by simp [World.setCell]
  generalize wA.setCell ⟨w.heap.size + 1 + 1, 0, none⟩ (.slice aA P.orders.length capA) = w1 at *
  have HSZ := Lib.hid hszs; clear hszs
  refine Calls.mono (toInt64SS_ok _ _ _ _ (Rows2.ext h3.p hgw1) HS.out.2.1) ?_
  rintro eB wB ⟨vB, rfl, hgB, hB⟩
  have hlpp : P.powers.length ≤ 1048576 := by have := HS.out.2.1; unfold size2 at this; omega
  have hBd := SlO.toD hB (by omega)
  obtain ⟨aB, capB, rfl, _, _⟩ := SlD.shape hBd
  have a1 := (HW.out.1.ext hgB)
  have r1 := (HW.out.2.1.ext hgB)
  have o1 := (HW.out.2.2.1.ext hgB)
  have hgwB := grown_trans hgw1 hgB
  have hgw2 := ext_store hgwB (show w.heap.size ≤ w.heap.size + 1 + 1 by omega) 1 (.slice aB P.powers.length capB)
  have hlB := hgB.size
  have hsA := HSZ.out
  have o2 := (o1.put (.slice aB P.powers.length capB)).2.1
  have a2 := a1.far (c := w.heap.size + 1 + 1) (j := 1) (v := .slice aB P.powers.length capB) (by omega)
  have r2 := r1.far (c := w.heap.size + 1 + 1) (j := 1) (v := .slice aB P.powers.length capB) (by omega)
  have hA2 : OwnIn (fun k => w0.heap.size ≤ k ∧ k < wA.heap.size) (wB.setCell ⟨w.heap.size + 1 + 1, 1, none⟩ (.slice aB P.powers.length capB)) (.slice aA P.orders.length capA) P.orders :=
    rdOwn.mono HW.out.2.2.2 (fun k hk hlt => ⟨hk, by simp [World.setCell]; omega, (Below.heap_setCell _ _ _ _ (by have := hk.1; simp; omega)).trans (hgB.block k hlt (by simp))⟩)
  have hB2 : RowsW (fun k => w1.heap.size ≤ k ∧ k < wB.heap.size) (wB.setCell ⟨w.heap.size + 1 + 1, 1, none⟩ (.slice aB P.powers.length capB)) (.slice aB P.powers.length capB) P.powers :=
    rdRowsW.mono hBd (fun k hk hlt => ⟨⟨hk, hlt⟩, by simpa [World.setCell] using hlt, Below.heap_setCell _ _ _ _ (by have hk : w1.heap.size ≤ k := hk; simp; omega)⟩)
  have HW2 := Lib.hid (And.intro a2 (And.intro r2 (And.intro o2 (And.intro hA2 hB2)))); clear a2 r2 o2 hA2 hB2 hB hBd HW
  obtain ⟨_, ca0, ca1, ca2, _⟩ := a1
  obtain ⟨_, co0, co1, co2, cof⟩ := o1
  clear r1
  go_wp2_with fail
  clear ca0 ca1 ca2 co0 co1 co2 cof
  have hszs : (wB.setCell ⟨w.heap.size + 1 + 1, 1, none⟩ (.slice aB P.powers.length capB)).heap.size = wB.heap.size := by simp [World.setCell]
  generalize wB.setCell ⟨w.heap.size + 1 + 1, 1, none⟩ (.slice aB P.powers.length capB) = w2 at *
  have HSZ2 := Lib.hid hszs; clear hszs
  refine Calls.mono (toInt64SSS_ok _ _ _ _ (Rows3.ext h3.c hgw2) HS.out.2.2) ?_
  rintro eC wC ⟨vC, rfl, hgC, hC⟩
  have hlcc : P.conj.length ≤ 1048576 := by have := HS.out.2.2; unfold size3 at this; omega
  have hCd := SlO.toD hC (by omega)
  obtain ⟨aC, capC, rfl, _, _⟩ := SlD.shape hCd
  have a1 := (HW2.out.1.ext hgC)
  have r1 := (HW2.out.2.1.ext hgC)
  have o1 := (HW2.out.2.2.1.ext hgC)
  have hgwC := grown_trans hgw2 hgC
  have hlC := hgC.size
  have hsB := HSZ2.out
  have hg3 := ext_store hgwC (show w.heap.size ≤ w.heap.size + 1 + 1 by omega) 2 (.slice aC P.conj.length capC)
  have hA2 := HW2.out.2.2.2.1
  have hB2 := HW2.out.2.2.2.2
  clear hC HW2
  obtain ⟨_, ca0, ca1, ca2, _⟩ := a1
  obtain ⟨_, co0, co1, co2, cof⟩ := o1
  obtain ⟨_, cr0, cr1, cr2, crf⟩ := r1
  have HX := Lib.hid (And.intro hA2 (And.intro hB2 hCd)); clear hA2 hB2 hCd
  go_wp2
  refine bodyPost_ret (v := .agg #[.slice aA P.orders.length capA, .slice aB P.powers.length capB, .slice aC P.conj.length capC]) (by simp [results, Try.results6, go_sem, cr0, cr1, cr2]) rfl ⟨_, rfl, ext_store (ext_store (ext_store hg3 (by omega) _ _) (by omega) _ _) (by omega) _ _, ?_⟩
  have hblk : ∀ k, w.heap.size + 1 + 1 < k → ((((wC.setCell ⟨w.heap.size + 1 + 1, 2, none⟩ (.slice aC P.conj.length capC)).setCell ⟨w.heap.size + 1, 0, none⟩ (.slice aA P.orders.length capA)).setCell ⟨w.heap.size + 1, 1, none⟩ (.slice aB P.powers.length capB)).setCell ⟨w.heap.size + 1, 2, none⟩ (.slice aC P.conj.length capC)).heap[k]? = wC.heap[k]? := fun k hk => by
    rw [Below.heap_setCell _ _ _ _ (by simp; omega), Below.heap_setCell _ _ _ _ (by simp; omega), Below.heap_setCell _ _ _ _ (by simp; omega), Below.heap_setCell _ _ _ _ (by simp; omega)]
  have hsz : ((((wC.setCell ⟨w.heap.size + 1 + 1, 2, none⟩ (.slice aC P.conj.length capC)).setCell ⟨w.heap.size + 1, 0, none⟩ (.slice aA P.orders.length capA)).setCell ⟨w.heap.size + 1, 1, none⟩ (.slice aB P.powers.length capB)).setCell ⟨w.heap.size + 1, 2, none⟩ (.slice aC P.conj.length capC)).heap.size = wC.heap.size := by simp [World.setCell]
  have hsz3 := HSZ.out
  have hsz4 := HSZ2.out
  refine ⟨_, _, _, fun k => w0.heap.size ≤ k ∧ k < wA.heap.size, fun k => w1.heap.size ≤ k ∧ k < wB.heap.size, fun k => w2.heap.size ≤ k, rfl, rdOwn.mono HX.out.1 (fun k hk hlt => ⟨hk, by rw [hsz]; omega, (hblk k (by omega)).trans (hgC.block k hlt (by simp))⟩),
    rdRowsW.mono HX.out.2.1 (fun k hk hlt => ⟨hk, by rw [hsz]; omega, (hblk k (by omega)).trans (hgC.block k hlt (by simp))⟩), SlD.mono rdRowsW HX.out.2.2 (fun k hk hlt => ⟨hk, by rw [hsz]; exact hlt, hblk k (by have hk : w2.heap.size ≤ k := hk; omega)⟩), fun k hk => ?_, fun k hk => ?_, fun k hk => ?_⟩
  · exact ⟨by show w.heap.size ≤ k; omega, by omega, by omega⟩
  · exact ⟨by show w.heap.size ≤ k; omega, by omega⟩
  · show w.heap.size ≤ k; omega

end Go.Proofs.Ytdfjgpioaomceaa
