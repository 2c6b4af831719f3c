/-
  (*impl.lattice).filter with a closure. (Printed by gen_filter.py.)
-/
import Derived.Test.YtdklekdpdbjfiaaGreatK6
import Derived.Test.YtdklekdpdbjfiaaGreatK9
import Derived.Test.YtdklekdpdbjfiaaGreatK2
import Derived.Test.YtdklekdpdbjfiaaGreatSFlLaw
namespace Go.Proofs.YtdklekdpdbjfiaaGreat
open Go.RowKit

set_option maxRecDepth 100000 in
set_option maxHeartbeats 4000000 in
theorem filterN_ok (Q : Nat → Prop) (c1 c2 : Value) (L : List (List (List Int))) (hn : L.length ≤ 17408) (w : World) (B lb : Nat) (p lv mv : Value) (hX : Box3 w lb p lv mv)
    (hL : SlO (fun F w u (x : List (List Int)) => RowsD F w u x) 23 B w lv L) (hB : B ≤ w.heap.size)
    (hcl0 : ∀ (i : Nat) (wr : World), i < L.length → Ext w wr → Calls Tryz.prog 85 #[.int .i64 (i : Int), c1, c2] wr (Ret wr fun _ v => ∃ r : Bool, v = .bool r ∧ (r = true ↔ Q i))) :
    Calls Tryz.prog 84 #[.pointer (some ⟨lb, 0, none⟩), .func (.func 85) #[] #[c1, c2]] w
      (Ret w fun w' v => SlO (fun F w u (x : List (List Int)) => RowsD F w u x) 23 B w' v (flTo Q L L.length)) := by
  obtain ⟨vs, Gb, hvl, hOv, hGb, hd, hE⟩ := hL
  obtain ⟨la, lc, hlv⟩ : ∃ a c, lv = .slice a L.length c := by
    rcases hOv.form with ⟨e1, e2⟩ | ⟨g, cp, e1, _⟩
    · have : L.length = 0 := by rw [← hvl, e2]; rfl
      exact ⟨none, 0, by rw [e1, this]⟩
    · exact ⟨_, _, by rw [e1, hvl]⟩
  subst hlv
  have hbr := hX
  obtain ⟨hx0, hx1, hx2, hx3, hx4⟩ := id hX
  go_enter Tryz.func84, Tryz.ntmps84
  go_wp2
  clear hx1 hx2 hx3 hx4
  go_loopw [5, 13] (fun ov iv wr => ∃ (k : Nat) (v5 : Value), v5 = ov ∧ iv = .int .i64 k ∧ k ≤ L.length ∧ Ext w wr ∧ SlOA (fun F w u (x : List (List Int)) => RowsD F w u x) 23 B (fun b => ∃ j, k ≤ j ∧ j < L.length ∧ Gb j b) wr v5 (flTo Q L k) ∧ ∀ b, v5.ownBlock = some b → w.heap.size ≤ b) (fun _ iv _ => L.length - (intOf iv).toNat)
  case atStart => exact ⟨0, _, rfl, rfl, by omega, Ext.refl _, ⟨[], fun _ _ => False, rfl, World.ownsRow_nil _ _ _ _, by simp, by simp, by simp [flTo], by simp, by simp [Value.ownBlock]⟩, by simp [Value.ownBlock]⟩
  case round =>
    obtain ⟨k, v5, rfl, rfl, hk, hg, hO, hob⟩ := hrel
    by_cases hlt : k < L.length
    · have hlt' : (k : Int) < L.length := by omega
      obtain ⟨gl, hla⟩ : ∃ gl, la = some ⟨gl, 0, none⟩ := by
        rcases hOv.form with ⟨e1, e2⟩ | ⟨g, cp, e1, _⟩
        · have : L.length = 0 := by rw [← hvl, e2]; rfl
          omega
        · simp only [Value.slice.injEq] at e1; exact ⟨g, e1.1⟩
      subst hla
      have hc := hg.cell (hOv.cell k (by omega)) (by simp)
      have hEk := hE k hlt
      obtain ⟨ua, uc, hvu, _, _⟩ := SlD.shape hEk
      rw [hvu] at hc hEk
      have hcl := hcl0 k wr hlt hg
      go_wp2_with fail
      refine Calls.mono hcl ?_
      rintro eA wA ⟨vA, rfl, hgA, r, rfl, hr⟩
      clear hcl hc
      have hgwA := grown_trans hg hgA
      have hOA := hO.ext rdRows hgA
      have hln := flTo_len Q L k
      cases r with
      | false =>
        have hst := flTo_no (L := L) (fun h => by have := hr.2 h; cases this)
        have hO2 := hOA.less (A' := fun b => ∃ j, k + 1 ≤ j ∧ j < L.length ∧ Gb j b) (fun b ⟨j, h1, h2, h3⟩ => ⟨j, by omega, h2, h3⟩)
        rw [← hst] at hO2
        clear hr hst hO hOA
        go_wp2
        go_roundw
        case rel => exact ⟨k + 1, v5, rfl, by go_num, by omega, hgwA, hO2, hob⟩
        case measure => simp [intOf]; omega
      | true =>
        have hst := flTo_yes (L := L) (hr.1 rfl)
        have hO2 := hOA.less (A' := fun b => (∃ j, k ≤ j ∧ j < L.length ∧ Gb j b) ∧ b < wA.heap.size) (fun b h => h.1)
        have huA : RowsD (Gb k) wA (.slice ua (gt L k).length uc) (gt L k) := rdRows.mono hEk (fun b hb hlt => ⟨hb, Nat.lt_of_lt_of_le hlt hgwA.size, hgwA.block b hlt (by simp)⟩)
        have hav := hO2.avoids
        have hF1 : ∀ b, Gb k b → b < wA.heap.size → ((∃ j, k ≤ j ∧ j < L.length ∧ Gb j b) ∧ b < wA.heap.size) ∧ B ≤ b := fun b hb hlt2 => ⟨⟨⟨k, by omega, hlt, hb⟩, hlt2⟩, (hGb k b hlt hb).1⟩
        have hF2 : ∀ b, (∃ j, k + 1 ≤ j ∧ j < L.length ∧ Gb j b) → ((∃ j, k ≤ j ∧ j < L.length ∧ Gb j b) ∧ b < wA.heap.size) ∧ ¬ Gb k b := fun b ⟨j, h1, h2, h3⟩ => ⟨⟨⟨j, by omega, h2, h3⟩, by have := (hGb j b h2 h3).2.2; have := hgwA.size; omega⟩, fun h4 => by have := hd j k b h2 hlt h3 h4; omega⟩
        have HF := Lib.hid (And.intro hst (And.intro hO2 (And.intro huA (And.intro hF1 hF2)))); clear hr hst hO hOA hO2 huA hF1 hF2
        have hBA := hgwA.size
        go_wp2_with (first | (at_builtin; refine wp_app_take3 rfl _ _ rfl B (fun b => (∃ j, k ≤ j ∧ j < L.length ∧ Gb j b) ∧ b < wA.heap.size) (fun b => ∃ j, k + 1 ≤ j ∧ j < L.length ∧ Gb j b) (Gb k) wA v5 _ (flTo Q L k) (gt L k) rfl HF.out.2.1 HF.out.2.2.1 HF.out.2.2.2.1 HF.out.2.2.2.2 (fun b hb => hb.2) rfl rfl (by omega) (by omega) ?_; intro v8 w8 hO8 hg8 hb8) | fail)
        have hg08 : Ext w w8 := grown_own hgwA hg8 (fun b hb hlt2 => by have := hob b hb; omega)
        have hob8 : ∀ b, v8.ownBlock = some b → w.heap.size ≤ b := fun b hb => by
          rcases hb8 with h | h
          · exact hob b (by rw [← h]; exact hb)
          · have := h b hb; omega
        rw [← HF.out.1] at hO8
        go_roundw
        case rel => exact ⟨k + 1, v8, rfl, by go_num, by omega, hg08, hO8, hob8⟩
        case measure => simp [intOf]; omega
    · have hke : k = L.length := by omega
      have hO2 := hO.o
      rw [hke] at hO2
      obtain ⟨az, nz, cz, hvz⟩ : ∃ a n c, v5 = .slice a n c := by
        have hln := flTo_len Q L L.length
        obtain ⟨a, c, h, _⟩ := SlD.shape (hO2.toD (by omega)); exact ⟨_, _, _, h⟩
      subst hvz
      have hnl : ¬ (k : Int) < L.length := by omega
      clear hO hke
      go_wp2
      go_ret
      exact ⟨_, rfl, hg, hO2⟩

end Go.Proofs.YtdklekdpdbjfiaaGreat
