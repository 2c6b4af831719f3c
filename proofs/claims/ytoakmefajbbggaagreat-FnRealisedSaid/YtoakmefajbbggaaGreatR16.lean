/-
  Drawing: spec.l07Draw.
  Drawing: spec.l12Pair and spec.l13Draw.
  Drawing: spec.l01From makes the source of numbers.
  Drawing: spec.DrawRegularRealisation (printed by gen_drawrr.py).
  Drawing: laws.big, spec.DrawProductSize.
  impl.IsRealisation.
  The laws' comparisons: laws.eqInt64SS, eqInt64SSS, eqPresentation.
  laws.likeInts, like29, like39: whether two lists are alike (printed by gen_like.py).
  laws.roll, below, draw9: numbers that follow from the bytes.
-/
import Derived.Test.YtoakmefajbbggaaGreatR1
import Derived.Test.YtoakmefajbbggaaGreatR10
import Derived.Test.YtoakmefajbbggaaGreatR12
import Derived.Test.YtoakmefajbbggaaGreatR13
import Derived.Test.YtoakmefajbbggaaGreatR15
import Derived.Test.YtoakmefajbbggaaGreatR4
import Derived.Test.YtoakmefajbbggaaGreatR5
import Derived.Test.YtoakmefajbbggaaGreatR6
import Derived.Test.YtoakmefajbbggaaGreatR7
import Derived.Test.YtoakmefajbbggaaGreatR8
import Derived.Test.YtoakmefajbbggaaGreatR9
import Derived.StillTailTactics
import Derived.Deep.RegionHeld3
import Derived.Laws.BitsAllLaws
namespace Go.Proofs.YtoakmefajbbggaaGreat
open Go.RowKit
attribute [local go_sem ↓] Go.wp_at_zero Go.wp_at_succ

set_option maxRecDepth 100000 in
set_option maxHeartbeats 16000000 in
theorem l07DrawL_ok (B0 : Nat) (w : World) (sb : Nat) (limit : Int) (hB0 : B0 ≤ w.heap.size) (hs : Src B0 w sb) :
    Calls Tryz.prog 85 #[.pointer (some ⟨sb, 0, none⟩), .int .i64 limit] w (Mut w (some sb) (DrawR B0 sb (PresAL 7 (LimOk limit) w.heap.size))) := by
  have hsb := hs.lt
  have hbB := Box3.made w 28 (.slice none 0 0) (.slice none 0 0) (.slice none 0 0)
  have hg0 : Ext w (w.alloc (.cells #[.slice none 0 0, .slice none 0 0, .slice none 0 0] 28)) := World.grownBy_alloc _ _ _
  have hs0 : (w.alloc (.cells #[.slice none 0 0, .slice none 0 0, .slice none 0 0] 28)).heap.size = w.heap.size + 1 := by simp
  have hsW := Lib.hid (hs.ext hg0); clear hs
  go_enter Tryz.func85, Tryz.ntmps85
  go_wp2_with fail
  generalize w.alloc (.cells #[.slice none 0 0, .slice none 0 0, .slice none 0 0] 28) = w0 at *
  have hs00 : w.heap.size + 1 ≤ w0.heap.size := by omega
  clear hs0
  refine Calls.mono (l07GroupL_ok B0 w0 sb limit (by omega) hsW.out) ?_
  rintro e1 w1 ⟨v1, rfl, hg1, hP1, hs1⟩
  obtain ⟨vo, vp, vc, Q, rfl, hV, hQ, hLQ⟩ := hP1
  have HLQ := Lib.hid hLQ; clear hLQ
  obtain ⟨a1, n1, c1, a2, n2, c2, a3, n3, c3, rfl, rfl, rfl⟩ := PresN3.shape ⟨Q, hV.shp, hQ⟩
  have hgq : Ext w1 (w1.alloc (.cells #[.slice a1 n1 c1, .slice a2 n2 c2, .slice a3 n3 c3] 28)) := World.grownBy_alloc _ _ _
  have hbQ := Box3.made w1 28 (.slice a1 n1 c1) (.slice a2 n2 c2) (.slice a3 n3 c3)
  obtain ⟨pb, hpb⟩ : ∃ pb, pb = w1.heap.size := ⟨_, rfl⟩
  rw [← hpb] at hbQ
  have hs1' := hg1.size
  have hQ2 : Pres3 (fun k => w0.heap.size ≤ k ∧ k ≠ pb) (w1.alloc (.cells #[.slice a1 n1 c1, .slice a2 n2 c2, .slice a3 n3 c3] 28)) (.slice a1 n1 c1) (.slice a2 n2 c2) (.slice a3 n3 c3) Q := hQ.mono (fun k hk hlt => ⟨⟨hk, by omega⟩, Nat.lt_of_lt_of_le hlt hgq.size, hgq.block k hlt (by simp)⟩)
  have hb1 := hbB.moved hg1 (by omega)
  have hb2 := hb1.ext hgq
  have hs2 := hs1.ext hgq
  have hgw2 := grown_trans (grown_of_ext (some sb) hg0) (grown_trans hg1 (grown_of_ext (some sb) hgq))
  have HP := Lib.hid hpb
  have HQ := Lib.hid (And.intro hQ2 (And.intro hs2 hV)); clear hQ hQ2 hs2 hs1 hV hg1 hbB hg0 hsW hb1 hgq
  go_wp2_with fail
  rw [← HP.out]
  generalize w1.alloc (.cells #[.slice a1 n1 c1, .slice a2 n2 c2, .slice a3 n3 c3] 28) = w2 at *
  have hpw : w0.heap.size ≤ pb := by omega
  clear hpb HP hs1'
  refine Calls.mono (l01Next_ok B0 w2 sb 24 HQ.out.2.1) ?_
  rintro e3 w3 ⟨v3, rfl, hg3, x, rfl, _, hx1, hs3⟩
  have hb3 := hb2.moved hg3 (by omega)
  have hbQ3 := hbQ.moved hg3 (by omega)
  have hQ3 : Pres3 (fun k => w0.heap.size ≤ k ∧ k ≠ pb) w3 (.slice a1 n1 c1) (.slice a2 n2 c2) (.slice a3 n3 c3) Q := HQ.out.1.mono (fun k hk hlt => ⟨hk, Nat.lt_of_lt_of_le hlt hg3.size, hg3.block k hlt (fun e => by have := Option.some.inj e; omega)⟩)
  have hgw3 := grown_trans hgw2 hg3
  have hV := HQ.out.2.2
  have hsz3 := hgw3.size
  have hp3 := hbQ3.1
  have HQ := Lib.hid (And.intro hQ3 (And.intro hs3 hV)); clear hQ3 hs3 hV hg3 hbQ hb2 hgw2 hx1
  obtain ⟨q0, q1, q2, q3, q4⟩ := id hbQ3
  by_cases hx0 : x = 0
  · have hxb : (x == 0) = true := by simp [hx0]
    clear hx0
    go_wp2_with fail
    refine Calls.mono (l07BendL_ok B0 w3 sb _ Q _ (by omega) HQ.out.2.1 ⟨_, _, _, rfl, HQ.out.1⟩ HQ.out.2.2) ?_
    rintro e4 w4 ⟨v4, rfl, hg4, ⟨uo, up, uc, R, rfl, hRl, hR, hRo⟩, hs4⟩
    obtain ⟨y1, m1, k1, hy1⟩ : ∃ a n c, uo = .slice a n c := by obtain ⟨a, c, e, _⟩ := hR.o.shape; exact ⟨_, _, _, e⟩
    obtain ⟨y2, m2, k2, hy2⟩ : ∃ a n c, up = .slice a n c := by obtain ⟨a, c, e, _⟩ := Sl.shape hR.p; exact ⟨_, _, _, e⟩
    obtain ⟨y3, m3, k3, hy3⟩ : ∃ a n c, uc = .slice a n c := by obtain ⟨a, c, e, _⟩ := Sl.shape hR.c; exact ⟨_, _, _, e⟩
    subst hy1 hy2 hy3
    have hb4 := hb3.moved hg4 (by omega)
    have hgw4 := grown_trans hgw3 hg4
    obtain ⟨b0, b1, b2, b3, b4⟩ := id hb4
    have hZ := hb4.all (.slice y1 m1 k1) (.slice y2 m2 k2) (.slice y3 m3 k3)
    obtain ⟨-, z0, z1, z2, -⟩ := id hZ
    have HF := Lib.hid (And.intro hgw4 (And.intro hs4 (And.intro hR (And.intro hRl (HLQ.out.le HQ.out.2.2 hRo))))); clear hZ hgw4 hs4 hR hRl hb4 hg4 hRo
    go_wp2_with fail
    refine bodyPost_ret (v := .agg #[.slice y1 m1 k1, .slice y2 m2 k2, .slice y3 m3 k3]) (by simp [results, Tryz.results85, go_sem, z0, z1, z2]) rfl ?_
    exact a_ret HF.out.1 (br := w.heap.size) (Nat.le_refl _) (fun k hk _ => by have hk : w3.heap.size ≤ k := hk; exact ⟨by omega, by omega⟩) HF.out.2.1 hB0 HF.out.2.2.2.1 HF.out.2.2.1 HF.out.2.2.2.2
  have hxb : (x == 0) = false := by simp [hx0]
  by_cases hx12 : x = 1 ∨ x = 2
  · rcases hx12 with rfl | rfl
    all_goals
      clear hx0
      go_wp2_with fail
      refine Calls.mono (l07TurnL_ok B0 w3 sb _ Q _ (by omega) HQ.out.2.1 ⟨_, _, _, rfl, HQ.out.1⟩ HQ.out.2.2) ?_
      rintro e4 w4 ⟨v4, rfl, hg4, ⟨uo, up, uc, R, rfl, hRl, hR, hRo⟩, hs4⟩
      obtain ⟨y1, m1, k1, hy1⟩ : ∃ a n c, uo = .slice a n c := by obtain ⟨a, c, e, _⟩ := hR.o.shape; exact ⟨_, _, _, e⟩
      obtain ⟨y2, m2, k2, hy2⟩ : ∃ a n c, up = .slice a n c := by obtain ⟨a, c, e, _⟩ := Sl.shape hR.p; exact ⟨_, _, _, e⟩
      obtain ⟨y3, m3, k3, hy3⟩ : ∃ a n c, uc = .slice a n c := by obtain ⟨a, c, e, _⟩ := Sl.shape hR.c; exact ⟨_, _, _, e⟩
      subst hy1 hy2 hy3
      have hb4 := hb3.moved hg4 (by omega)
      have hgw4 := grown_trans hgw3 hg4
      obtain ⟨b0, b1, b2, b3, b4⟩ := id hb4
      have hZ := hb4.all (.slice y1 m1 k1) (.slice y2 m2 k2) (.slice y3 m3 k3)
      obtain ⟨-, z0, z1, z2, -⟩ := id hZ
      have HF := Lib.hid (And.intro hgw4 (And.intro hs4 (And.intro hR (And.intro hRl (HLQ.out.le HQ.out.2.2 hRo))))); clear hZ hgw4 hs4 hR hRl hb4 hg4 hRo
      go_wp2_with fail
      refine bodyPost_ret (v := .agg #[.slice y1 m1 k1, .slice y2 m2 k2, .slice y3 m3 k3]) (by simp [results, Tryz.results85, go_sem, z0, z1, z2]) rfl ?_
      exact a_ret HF.out.1 (br := w.heap.size) (Nat.le_refl _) (fun k hk _ => by have hk : w3.heap.size ≤ k := hk; exact ⟨by omega, by omega⟩) HF.out.2.1 hB0 HF.out.2.2.2.1 HF.out.2.2.1 HF.out.2.2.2.2
  · have hxb1 : (x == 1) = false := by simp; omega
    have hxb2 : (x == 2) = false := by simp; omega
    clear hx12 hx0
    obtain ⟨b0, b1, b2, b3, b4⟩ := id hb3
    have hZ := hb3.all (.slice a1 n1 c1) (.slice a2 n2 c2) (.slice a3 n3 c3)
    obtain ⟨-, z0, z1, z2, -⟩ := id hZ
    have HF := Lib.hid hgw3; clear hZ hgw3 hb3
    go_wp2_with fail
    refine bodyPost_ret (v := .agg #[.slice a1 n1 c1, .slice a2 n2 c2, .slice a3 n3 c3]) (by simp [results, Tryz.results85, go_sem, z0, z1, z2]) rfl ?_
    exact a_ret HF.out (br := w.heap.size) (Nat.le_refl _) (fun k hk _ => ⟨by omega, by omega⟩) HQ.out.2.1 hB0 (by have := HQ.out.2.2.n6; omega) HQ.out.1 HLQ.out

end Go.Proofs.YtoakmefajbbggaaGreat
namespace Go.Proofs.YtoakmefajbbggaaGreat
open Go.RowKit
attribute [local go_sem ↓] Go.wp_at_zero Go.wp_at_succ

theorem Pres3.keptB {B : Nat} {r : Option Nat} {w w' : World} {vo vp vc : Value} {P : Pr} (h : Pres3 (From B) w vo vp vc P) (hg : w.grownBy w' r) (hr : ∀ k, r = some k → k < B) : Pres3 (From B) w' vo vp vc P :=
  h.mono (frame_of hg (fun k hk _ => ⟨hk, fun e => by have := hr k e; have hk : B ≤ k := hk; omega⟩))
theorem Pres3.low {B B' : Nat} {w : World} {vo vp vc : Value} {P : Pr} (h : Pres3 (From B) w vo vp vc P) (hB : B' ≤ B) : Pres3 (From B') w vo vp vc P :=
  h.mono (fun _ hk hlt => ⟨Nat.le_trans hB hk, hlt, rfl⟩)

end Go.Proofs.YtoakmefajbbggaaGreat
namespace Go.Proofs.YtoakmefajbbggaaGreat
open Go.RowKit
attribute [local go_sem ↓] Go.wp_at_zero Go.wp_at_succ

set_option maxRecDepth 100000 in
set_option maxHeartbeats 8000000 in
theorem l01From_ok (w : World) (cv : Value) (bs : List Int) (S : Nat → Prop) (hb : Bytes S w cv bs) :
    Calls Tryz.prog 49 #[cv] w (Ret w fun w' v => v = .pointer (some ⟨w.heap.size, 0, none⟩) ∧ Src (w.heap.size + 1) w' w.heap.size) := by
  obtain ⟨a, cap, rfl, _, hlen⟩ := Sl.shape hb
  have hbA := Box3.made w 124 (.slice a bs.length cap) (.int .i64 0) (.int .i64 76001)
  have hgA : Ext w (w.alloc (.cells #[.slice a bs.length cap, .int .i64 0, .int .i64 76001] 124)) := World.grownBy_alloc _ _ _
  go_enter Tryz.func49, Tryz.ntmps49
  go_wp2_with fail
  generalize w.alloc (.cells #[.slice a bs.length cap, .int .i64 0, .int .i64 76001] 124) = w0 at *
  go_loopw [4] (fun iv wr => ∃ (i seed : Nat), iv = .int .i64 i ∧ i ≤ bs.length ∧ seed < 2147483647 ∧ Ext w wr ∧ Box3 wr w.heap.size (.slice a bs.length cap) (.int .i64 0) (.int .i64 seed)) (fun iv _ => bs.length - (intOf iv).toNat)
  case atStart => exact ⟨0, 76001, rfl, by omega, by omega, hgA, hbA⟩
  case round =>
    clear hbA hgA
    obtain ⟨i, seed, rfl, hi, hs, hg, hB⟩ := hrel
    by_cases hlt : i < bs.length
    · by_cases h64 : i < 64
      · obtain ⟨b, off, rfl, hbS, hbl, hcb, hx0, hx1⟩ := Bytes.at hb i hlt
        have hcr := hg.cell hcb (by simp)
        generalize gt bs i = x at hcb hcr hx0 hx1
        have hli : (i : Int) < (bs.length : Nat) := by omega
        have h6i : (i : Int) < 64 := by omega
        obtain ⟨s2, hs2⟩ : ∃ s2 : Nat, ((seed : Int) * 71 + x) % 2147483647 = (s2 : Int) ∧ s2 < 2147483647 := ⟨(((seed : Int) * 71 + x) % 2147483647).toNat, by omega, by omega⟩
        have hBs := (hB.put (.int .i64 (s2 : Nat))).2.2
        have hgs := grown_set wr w.heap.size 2 (.int .i64 (s2 : Nat))
        have hgn : Ext w (wr.setCell ⟨w.heap.size, 2, none⟩ (.int .i64 (s2 : Nat))) := grown_own hg hgs (fun j hj hlt => by have := Option.some.inj hj; omega)
        have hBd := hBs.ext (grown_drew (wr.setCell ⟨w.heap.size, 2, none⟩ (.int .i64 (s2 : Nat))) none)
        have hgd := grown_trans hgn (grown_drew (wr.setCell ⟨w.heap.size, 2, none⟩ (.int .i64 (s2 : Nat))) none)
        have hw1 : IntKind.i64.wrap ((seed : Int) * 71) = (seed : Int) * 71 := IntWalk.i64_in _ (by omega)
        have hw2 : IntKind.i64.wrap ((seed : Int) * 71 + x) = (seed : Int) * 71 + x := IntWalk.i64_in _ (by omega)
        have hw0 : IntKind.i64.wrap x = x := IntWalk.i64_in _ (by omega)
        have hrem : ((seed : Int) * 71 + x).tmod 2147483647 = (s2 : Int) := by rw [Int.tmod_eq_emod_of_nonneg (by omega)]; exact hs2.1
        obtain ⟨h0, h1, h2, h3, h4⟩ := id hB
        have c0 : wr.drew.cell? ⟨w.heap.size, 2, none⟩ = some (.int .i64 seed) := h3
        have c1 : wr.drew.cell? ⟨b, off + i, none⟩ = some (.int .u8 x) := hcr
        have c2 : w.heap.size < wr.drew.heap.size := h0
        have c3 := h4
        have HQ := Lib.hid (And.intro hgd (And.intro hBd (And.intro hs2.2 hb))); clear hgd hBd hs2 hb hgn hgs hBs hB hg h0 h1 h2 h3 hcb hcr
        go_wp2
        go_still_tail 15, (by kernel_rfl)
        change wpList _ _ _ _ _ wr.drew
        go_wp2
        go_roundw
        case rel => exact ⟨i + 1, s2, by go_num, by omega, HQ.out.2.2.1, HQ.out.1, HQ.out.2.1⟩
        case measure => simp [intOf]; omega
      · have hli : (i : Int) < (bs.length : Nat) := by omega
        have h6i : ¬ (i : Int) < 64 := by omega
        have HQ := Lib.hid (And.intro hg hB); clear hg hB
        go_wp2
        go_ret
        exact ⟨_, rfl, HQ.out.1, rfl, _, 0, seed, bs, HQ.out.2, Bytes.mono hb (fun k _ hlt => ⟨⟨by omega, by omega⟩, Nat.lt_of_lt_of_le hlt HQ.out.1.size, HQ.out.1.block k hlt (by simp)⟩), by omega, hs, by omega⟩
    · have hli : ¬ (i : Int) < (bs.length : Nat) := by omega
      have HQ := Lib.hid (And.intro hg hB); clear hg hB
      go_wp2
      go_ret
      exact ⟨_, rfl, HQ.out.1, rfl, _, 0, seed, bs, HQ.out.2, Bytes.mono hb (fun k _ hlt => ⟨⟨by omega, by omega⟩, Nat.lt_of_lt_of_le hlt HQ.out.1.size, HQ.out.1.block k hlt (by simp)⟩), by omega, hs, by omega⟩

end Go.Proofs.YtoakmefajbbggaaGreat
namespace Go.Proofs.YtoakmefajbbggaaGreat
open Go.RowKit
attribute [local go_sem ↓] Go.wp_at_zero Go.wp_at_succ

set_option maxRecDepth 100000 in
set_option maxHeartbeats 8000000 in
theorem DrawRegularRealisation_ok (w : World) (cv : Value) (bs : List Int) (S : Nat → Prop) (hb : Bytes S w cv bs) :
    Calls Tryz.prog 30 #[cv] w (Ret w (PresA 7 w.heap.size)) := by
  obtain ⟨a, cap, rfl, _, _⟩ := Sl.shape hb
  have hbB := Box3.made w 28 (.slice none 0 0) (.slice none 0 0) (.slice none 0 0)
  have hg0 : Ext w (w.alloc (.cells #[.slice none 0 0, .slice none 0 0, .slice none 0 0] 28)) := World.grownBy_alloc _ _ _
  have hs0 : (w.alloc (.cells #[.slice none 0 0, .slice none 0 0, .slice none 0 0] 28)).heap.size = w.heap.size + 1 := by simp
  have hb0 := Bytes.ext hb hg0
  go_enter Tryz.func30, Tryz.ntmps30
  go_wp2_with fail
  generalize w.alloc (.cells #[.slice none 0 0, .slice none 0 0, .slice none 0 0] 28) = w0 at *
  have hs00 : w.heap.size + 1 ≤ w0.heap.size := by omega
  clear hs0
  refine Calls.mono (l01From_ok w0 _ bs S hb0) ?_
  rintro e0 wS ⟨v0, rfl, hgS, rfl, hsS⟩
  have hzS : w0.heap.size + 1 ≤ wS.heap.size := by have := hsS.lt; omega
  have hbS := hbB.ext hgS
  obtain ⟨sb, hsb⟩ : ∃ sb, sb = w0.heap.size := ⟨_, rfl⟩
  rw [← hsb] at hsS
  have hsb1 : w.heap.size + 1 ≤ sb ∧ sb + 1 ≤ wS.heap.size := by omega
  have hgw0 := grown_trans hg0 hgS
  have HSB := Lib.hid hsb
  clear hbB hb0 hg0 hgS hzS hs00
  go_wp2_with fail
  rw [← HSB.out]
  refine Calls.mono (l01Next_ok (sb + 1) wS sb 12 (by rw [HSB.out]; rw [HSB.out] at hsS; exact hsS)) ?_
  rintro e3 w3 ⟨v3, rfl, hg3, x, rfl, _, hx1, hs3⟩
  clear hsb
  have hb3 := hbS.moved hg3 (by omega)
  have hsz3 := hg3.size
  have HS := Lib.hid (And.intro hs3 hg3); clear hs3 hg3 hbS hsS hx1
  by_cases hx0 : x = 0
  · subst hx0
    go_wp2_with fail
    refine Calls.mono (l07DrawL_ok (sb + 1) w3 sb 243 (by omega) HS.out.1) ?_
    rintro e1 w1 ⟨v1, rfl, hg1, ⟨vo, vp, vc, Q, rfl, hQl, hQ, -⟩, hs1⟩
    obtain ⟨a1, n1, c1, hy1⟩ : ∃ a n c, vo = .slice a n c := by obtain ⟨a, c, e, _⟩ := hQ.o.shape; exact ⟨_, _, _, e⟩
    obtain ⟨a2, n2, c2, hy2⟩ : ∃ a n c, vp = .slice a n c := by obtain ⟨a, c, e, _⟩ := Sl.shape hQ.p; exact ⟨_, _, _, e⟩
    obtain ⟨a3, n3, c3, hy3⟩ : ∃ a n c, vc = .slice a n c := by obtain ⟨a, c, e, _⟩ := Sl.shape hQ.c; exact ⟨_, _, _, e⟩
    subst hy1 hy2 hy3
    have hs1' := hg1.size
    have hb1 := hb3.moved hg1 (by omega)
    obtain ⟨b0, b1, b2, b3, b4⟩ := id hb1
    have hZ := hb1.all (.slice a1 n1 c1) (.slice a2 n2 c2) (.slice a3 n3 c3)
    obtain ⟨-, z0, z1, z2, -⟩ := id hZ
    have hT := grown_set3 w1 w.heap.size (.slice a1 n1 c1) (.slice a2 n2 c2) (.slice a3 n3 c3)
    have hin : ∀ k, some w.heap.size = some k → k < w3.heap.size := fun k hk => by have := Option.some.inj hk; omega
    have hend : Ret w (PresA 7 w.heap.size) (.returned (.agg #[.slice a1 n1 c1, .slice a2 n2 c2, .slice a3 n3 c3])) (((w1.setCell ⟨w.heap.size, 0, none⟩ (.slice a1 n1 c1)).setCell ⟨w.heap.size, 1, none⟩ (.slice a2 n2 c2)).setCell ⟨w.heap.size, 2, none⟩ (.slice a3 n3 c3)) :=
      ⟨_, rfl, grown_own (grown_own hgw0 (grown_trans HS.out.2 hg1) (fun j hj hlt => by have := Option.some.inj hj; omega)) hT (fun j hj hlt => by have := Option.some.inj hj; omega), _, _, _, Q, rfl, hQl, (hQ.keptB hT hin).low (by omega)⟩
    have HE := Lib.hid hend
    clear hend hT hZ hQ hg1 hs1 hb1 hb3 hgw0
    go_wp2_with fail
    refine bodyPost_ret (v := .agg #[.slice a1 n1 c1, .slice a2 n2 c2, .slice a3 n3 c3]) (by simp [results, Tryz.results30, go_sem, z0, z1, z2]) rfl ?_
    exact HE.out
  have hxb0 : (x == 0) = false := by simp [hx0]
  clear hx0
  go_wp2_with fail
  refine Calls.mono (l07DrawL_ok (sb + 1) w3 sb 36 (by omega) HS.out.1) ?_
  rintro e1 w1 ⟨v1, rfl, hg1, ⟨vo, vp, vc, Q, rfl, hQl, hQ, -⟩, hs1⟩
  obtain ⟨a1, n1, c1, hy1⟩ : ∃ a n c, vo = .slice a n c := by obtain ⟨a, c, e, _⟩ := hQ.o.shape; exact ⟨_, _, _, e⟩
  obtain ⟨a2, n2, c2, hy2⟩ : ∃ a n c, vp = .slice a n c := by obtain ⟨a, c, e, _⟩ := Sl.shape hQ.p; exact ⟨_, _, _, e⟩
  obtain ⟨a3, n3, c3, hy3⟩ : ∃ a n c, vc = .slice a n c := by obtain ⟨a, c, e, _⟩ := Sl.shape hQ.c; exact ⟨_, _, _, e⟩
  subst hy1 hy2 hy3
  have hs1' := hg1.size
  have hb1 := hb3.moved hg1 (by omega)
  obtain ⟨b0, b1, b2, b3, b4⟩ := id hb1
  have hZ := hb1.all (.slice a1 n1 c1) (.slice a2 n2 c2) (.slice a3 n3 c3)
  obtain ⟨-, z0, z1, z2, -⟩ := id hZ
  have hT := grown_set3 w1 w.heap.size (.slice a1 n1 c1) (.slice a2 n2 c2) (.slice a3 n3 c3)
  have hin : ∀ k, some w.heap.size = some k → k < w3.heap.size := fun k hk => by have := Option.some.inj hk; omega
  have hend : Ret w (PresA 7 w.heap.size) (.returned (.agg #[.slice a1 n1 c1, .slice a2 n2 c2, .slice a3 n3 c3])) (((w1.setCell ⟨w.heap.size, 0, none⟩ (.slice a1 n1 c1)).setCell ⟨w.heap.size, 1, none⟩ (.slice a2 n2 c2)).setCell ⟨w.heap.size, 2, none⟩ (.slice a3 n3 c3)) :=
    ⟨_, rfl, grown_own (grown_own hgw0 (grown_trans HS.out.2 hg1) (fun j hj hlt => by have := Option.some.inj hj; omega)) hT (fun j hj hlt => by have := Option.some.inj hj; omega), _, _, _, Q, rfl, hQl, (hQ.keptB hT hin).low (by omega)⟩
  have HE := Lib.hid hend
  clear hend hT hZ hQ hg1 hs1 hb1 hb3 hgw0
  go_wp2_with fail
  refine bodyPost_ret (v := .agg #[.slice a1 n1 c1, .slice a2 n2 c2, .slice a3 n3 c3]) (by simp [results, Tryz.results30, go_sem, z0, z1, z2]) rfl ?_
  exact HE.out

end Go.Proofs.YtoakmefajbbggaaGreat
namespace Go.Proofs.YtoakmefajbbggaaGreat
open Go.RowKit
attribute [local go_sem ↓] Go.wp_at_zero Go.wp_at_succ

theorem big_ok (w : World) (cv : Value) (bs : List Int) (S : Nat → Prop) (hb : Bytes S w cv bs) :
    Calls Tryz.prog 7 #[cv] w fun e w' => e = .returned (.bool (decide (4096 < bs.length))) ∧ w = w' := by
  obtain ⟨a, cap, rfl, _, hlen⟩ := Sl.shape hb
  go_enter Tryz.func7, Tryz.ntmps7
  by_cases h : 4096 < bs.length
  · have hi : (4096 : Int) < (bs.length : Nat) := by omega
    go_wp2
    go_ret
    exact ⟨ret_b (by simp [h]), rfl⟩
  · have hi : ¬ (4096 : Int) < (bs.length : Nat) := by omega
    go_wp2
    go_ret
    exact ⟨ret_b (by simp), rfl⟩

end Go.Proofs.YtoakmefajbbggaaGreat
namespace Go.Proofs.YtoakmefajbbggaaGreat
open Go.RowKit

theorem own_one0 {B : Nat} {w : World} (hB : B ≤ w.heap.size) (y : Int) : Own B (w.alloc (.cells #[.int .i64 y] 2)) (.slice (some ⟨w.heap.size, 0, none⟩) 1 1) [y] := World.ownsRow_lit w #[.int .i64 y] 1 hB (by decide) rfl

open Classical in
set_option maxRecDepth 100000 in
set_option maxHeartbeats 16000000 in
theorem iReal_ok (P : Pr) (w : World) (pv lv : Value) (L : List (List Int)) (hLl : L.length ≤ 1000) (hLr : ∀ b ∈ L, b.length ≤ 1000000) (Sp Sl_ : Nat → Prop) (hpv : PresV Sp w pv P) (hlv : Rows2 Sl_ w lv L) :
    Calls Tryz.prog 33 #[pv, lv] w (Ret w fun _ v => v = .tuple #[.bool (reB P L), .int .i64 (reC P)]) := by
  have hvd : validB P = true ↔ Valid P := by unfold validB; rw [decide_eq_true_eq]
  obtain ⟨vo, vp, vc, rfl, h3⟩ := hpv
  have hp0 := PresP.box h3 28
  have hg0 : Ext w (w.alloc (.cells #[vo, vp, vc] 28)) := World.grownBy_alloc _ _ _
  have hl0 := Rows2.ext hlv hg0
  obtain ⟨al, capl, rfl, _, _⟩ := Sl.shape hlv
  obtain ⟨vo6, vp6, vc6, _, _, hc0, hc1, hc2, h36⟩ := hp0.at
  simp only [Nat.zero_add] at hc1 hc2
  obtain ⟨ao, co, hvo, _, _⟩ := h36.o.shape
  subst hvo
  have hbx : ∀ w', Ext (w.alloc (.cells #[vo, vp, vc] 28)) w' → w'.cell? ⟨w.heap.size, 0, none⟩ = some (.slice ao P.orders.length co) ∧ w'.cell? ⟨w.heap.size, 1, none⟩ = some vp6 ∧ w'.cell? ⟨w.heap.size, 2, none⟩ = some vc6 := fun w' h => ⟨h.cell hc0 (by simp), h.cell hc1 (by simp), h.cell hc2 (by simp)⟩
  have hpx : ∀ w', Ext (w.alloc (.cells #[vo, vp, vc] 28)) w' → PresV Any w' (.agg #[.slice ao P.orders.length co, vp6, vc6]) P := fun w' h => ⟨_, _, _, rfl, Pres3.ext h36 h⟩
  have hipr := isPresentation_ok (w.alloc (.cells #[vo, vp, vc] 28)) (.agg #[.slice ao P.orders.length co, vp6, vc6]) P Any (hpx _ (Ext.refl _))
  have hppx : ∀ w', Ext (w.alloc (.cells #[vo, vp, vc] 28)) w' → PresP Any w' (.pointer (some ⟨w.heap.size, 0, none⟩)) P := fun w' h => hp0.ext h
  have HB := Lib.hid (And.intro hbx (And.intro hpx (And.intro hppx (And.intro hvd hLr)))); clear hbx hpx hppx hvd hp0 hlv h36 hLr
  go_enter Tryz.func33, Tryz.ntmps33
  go_wp2_with fail
  clear hc0 hc1 hc2
  generalize hw0 : w.alloc (.cells #[vo, vp, vc] 28) = w0 at *
  clear hw0
  refine Calls.mono hipr ?_
  rintro e1 w1 ⟨v1, rfl, hg1, rfl⟩
  clear hipr
  cases hv : validB P with
  | false =>
    obtain ⟨hc, hb⟩ := re_inv hv L
    have HC := Lib.hid (And.intro hc hb); clear hc hb hv
    go_wp2
    go_ret2
    exact ⟨_, rfl, grown_trans hg0 hg1, by rw [HC.out.1, HC.out.2]; rfl⟩
  | true =>
    have hP := HB.out.2.2.2.1.1 hv
    have hop := hP.ordP_pos
    have h729 : ordP P ≤ 729 := hP.le729
    have hn6 := hP.n6
    have HVV := Lib.hid hv; clear hv
    go_wp2_with fail
    refine Calls.mono (orderOf_ok w1 _ P Any hP (HB.out.2.2.1 w1 hg1)) ?_
    rintro _ _ ⟨rfl, rfl⟩
    by_cases hbig : 128 < ordP P
    · obtain ⟨hc, hb⟩ := re_big HVV.out hbig L
      have HC := Lib.hid (And.intro hc hb); clear hc hb
      obtain ⟨op, hope⟩ : ∃ op, op = ordP P := ⟨_, rfl⟩
      rw [← hope] at hbig ⊢
      clear hope hop h729
      go_wp2
      go_ret2
      exact ⟨_, rfl, grown_trans hg0 hg1, by rw [HC.out.1, HC.out.2]; rfl⟩
    obtain ⟨N, hN⟩ : ∃ N, N = (ordP P).toNat := ⟨_, rfl⟩
    have hNo : ordP P = (N : Int) := by omega
    have hN128 : N ≤ 128 := by omega
    have hN0 : 0 < N := by omega
    have hno : ∀ h3 : ¬ RealB P L, reC P = 0 ∧ reB P L = false := fun h3 => re_no HVV.out hbig h3
    have hyes : ∀ h3 : RealB P L, reC P = 0 ∧ reB P L = true := fun h3 => re_yes HVV.out hbig h3
    have hre : RealB P L ↔ L.length = P.orders.length ∧ (∀ b ∈ L, BijL N b) ∧ (∀ w ∈ relsP P, evB N L w w.length = selfL N) ∧ ∀ t, t < N → Rch L t := by rw [hN]; exact Iff.rfl
    have HR := Lib.hid (And.intro hno (And.intro hyes hre)); clear hno hyes hre
    rw [hNo]
    have hbig' : ¬ (128 : Int) < (N : Int) := by omega
    clear hbig hN hNo hop h729
    obtain ⟨c0_, c1_, c2_⟩ := HB.out.1 w1 hg1
    have hll : ∀ w', Ext w1 w' → Rows2 Sl_ w' (.slice al L.length capl) L := fun w' h => Rows2.ext hl0 (grown_trans hg1 h)
    have HL := Lib.hid hll; clear hll hl0
    by_cases hlen : L.length = P.orders.length
    case neg =>
      have hn : ¬ RealB P L := fun h => hlen (HR.out.2.2.1 h).1
      obtain ⟨hc, hb⟩ := HR.out.1 hn
      have HC := Lib.hid (And.intro hc hb); clear hc hb hn
      have hne : ((L.length : Int) != (P.orders.length : Int)) = true := by simp; omega
      clear hlen
      go_wp2
      go_ret2
      exact ⟨_, rfl, grown_trans hg0 hg1, by rw [HC.out.1, HC.out.2]; rfl⟩
    have hne : ((L.length : Int) != (P.orders.length : Int)) = false := by simp; omega
    have HLE := Lib.hid hlen; clear hlen
    go_wp2
    clear c0_ c1_ c2_ hne hbig'
    go_loopw [33] (fun iv wr => ∃ k : Nat, iv = .int .i64 (k : Int) ∧ k ≤ L.length ∧ Ext w1 wr ∧ Hid (∀ j, j < k → BijL N (gt L j))) (fun iv _ => L.length - (intOf iv).toNat)
    case atStart => exact ⟨0, rfl, by omega, Ext.refl _, Lib.hid (fun j hj => by omega)⟩
    case round =>
      obtain ⟨k, rfl, hk, hg, hS⟩ := hrel
      have hgw := grown_trans hg0 (grown_trans hg1 hg)
      by_cases hlt : k < L.length
      · have hlt' : (k : Int) < L.length := by omega
        obtain ⟨rb, ro, ra, rc, hab, _, _, hcr, hri⟩ := Rows2.at (HL.out wr hg) k hlt
        subst hab
        have hbl := HB.out.2.2.2.2 _ (gtMem hlt)
        have hbad : ¬ BijL N (gt L k) → ¬ RealB P L := fun h hR => h ((HR.out.2.2.1 hR).2.1 _ (gtMem hlt))
        have hnext : BijL N (gt L k) → ∀ j, j < k + 1 → BijL N (gt L j) := fun h j hj => by
          rcases Nat.lt_succ_iff_lt_or_eq.1 hj with h1 | h1
          · exact hS.out j h1
          · rw [h1]; exact h
        obtain ⟨b, hb⟩ : ∃ b, b = gt L k := ⟨_, rfl⟩
        rw [← hb] at hcr hri hbl hbad hnext
        have hcon := isBijection_ok b hbl wr _ _ hri
        by_cases hbn : b.length = N
        · have hne : ((b.length : Int) != (N : Int)) = false := by simp; omega
          by_cases hB : BijL N b
          · have hd : decide (BijL b.length b) = true := decide_eq_true (by rw [hbn]; exact hB)
            have HN := Lib.hid (And.intro (hnext hB) (And.intro hcon hd)); clear hnext hcon hB hbad hri hb hbn hbl hd
            go_wp2_with fail
            refine Calls.mono HN.out.2.1 ?_
            rintro e6 w6 ⟨v6, rfl, hg6, rfl⟩
            rw [HN.out.2.2]
            have hgn := grown_trans hg hg6
            go_wp2
            go_roundw
            case rel => exact ⟨k + 1, by go_num, by omega, hgn, Lib.hid HN.out.1⟩
            case measure => simp [intOf]; omega
          · obtain ⟨hc, hb2⟩ := HR.out.1 (hbad hB)
            have hd : decide (BijL b.length b) = false := decide_eq_false (by rw [hbn]; exact hB)
            have HN := Lib.hid (And.intro (And.intro hc hb2) (And.intro hcon hd)); clear hnext hcon hB hbad hri hb hbn hbl hc hb2 hd
            go_wp2_with fail
            refine Calls.mono HN.out.2.1 ?_
            rintro e6 w6 ⟨v6, rfl, hg6, rfl⟩
            rw [HN.out.2.2]
            go_wp2
            go_ret2
            exact ⟨_, rfl, grown_trans hgw hg6, by rw [HN.out.1.1, HN.out.1.2]; rfl⟩
        · have hne : ((b.length : Int) != (N : Int)) = true := by simp; omega
          obtain ⟨hc, hb2⟩ := HR.out.1 (hbad (fun h => hbn h.1))
          have HN := Lib.hid (And.intro hc hb2); clear hnext hcon hbad hri hb hbn hbl hc hb2
          go_wp2
          go_ret2
          exact ⟨_, rfl, hgw, by rw [HN.out.1, HN.out.2]; rfl⟩
      · have hke : k = L.length := by omega
        have hLB : ∀ b ∈ L, BijL N b := fun b hb => by
          obtain ⟨j, hj, rfl⟩ := mem_gt hb
          exact hS.out j (by omega)
        have HLB := Lib.hid hLB; clear hLB hS hke
        have hnl : ¬ (k : Int) < L.length := by omega
        obtain ⟨w2, rfl⟩ : ∃ w2 : World, w2 = wr := ⟨_, rfl⟩
        have hg2 := grown_trans hg1 hg
        obtain ⟨c0_, c1_, c2_⟩ := HB.out.1 w2 hg2
        go_wp2_with fail
        clear c0_ c1_ c2_ hnl
        refine Calls.mono (relators_ok P hP w2 _ Any (HB.out.2.1 w2 hg2)) ?_
        rintro e3 w3 ⟨v3, rfl, hg3, qa, qn, qc, rfl, hO3⟩
        have hwr : ∀ x ∈ relsP P, WordN L.length x := fun x hx => by rw [HLE.out]; exact relsP_word hP x hx
        have hrl : (relsP P).length ≤ 1000 := by
          have := relTo_len hP P.orders.length (Nat.le_refl _)
          show (relTo P P.orders.length).length ≤ 1000
          omega
        obtain ⟨R, hR⟩ : ∃ R, R = relsP P := ⟨_, rfl⟩
        rw [← hR] at hO3 hwr hrl
        have hRr := RowsD.rows (SlO.toD hO3 (by omega))
        have hqn : qn = R.length := by obtain ⟨a, c, e, _⟩ := Sl.shape hRr; cases e; rfl
        subst hqn
        have hRx : ∀ w', Ext w3 w' → Rows2 Any w' (.slice qa R.length qc) R := fun w' h => Rows2.sub (Rows2.ext hRr h) (fun _ _ _ => trivial)
        have hg03 := grown_trans hg2 hg3
        have hgl3 := grown_trans hg hg3
        have HRR := Lib.hid (And.intro hR (And.intro hwr hRx)); clear hR hwr hRx hRr hO3 hg3
        clear hk hlt hg hgw
        go_wp2
        go_loopw [54] (fun iv wr => ∃ k : Nat, iv = .int .i64 (k : Int) ∧ k ≤ R.length ∧ Ext w3 wr ∧ Hid (∀ j, j < k → evB N L (gt R j) (gt R j).length = selfL N)) (fun iv _ => R.length - (intOf iv).toNat)
        case atStart => exact ⟨0, rfl, by omega, Ext.refl _, Lib.hid (fun j hj => by omega)⟩
        case round =>
          obtain ⟨k, rfl, hk, hg, hS⟩ := hrel
          have hg0r := grown_trans hg03 hg
          have hglr := grown_trans hgl3 hg
          have hgw := grown_trans hg0 hg0r
          by_cases hlt : k < R.length
          · have hlt' : (k : Int) < R.length := by omega
            obtain ⟨rb, ro, ra, rc, hab, _, _, hcr, hri⟩ := Rows2.at (HRR.out.2.2 wr hg) k hlt
            subst hab
            have hwd := HRR.out.2.1 _ (gtMem hlt)
            have hbad : ¬ evB N L (gt R k) (gt R k).length = selfL N → ¬ RealB P L := fun h hRb => h ((HR.out.2.2.1 hRb).2.2.1 _ (by rw [← HRR.out.1]; exact gtMem hlt))
            have hnext : evB N L (gt R k) (gt R k).length = selfL N → ∀ j, j < k + 1 → evB N L (gt R j) (gt R j).length = selfL N := fun h j hj => by
              rcases Nat.lt_succ_iff_lt_or_eq.1 hj with h1 | h1
              · exact hS.out j h1
              · rw [h1]; exact h
            obtain ⟨W, hW⟩ : ∃ W, W = gt R k := ⟨_, rfl⟩
            rw [← hW] at hcr hri hwd hbad hnext
            have hcw := composeWord_ok HLB.out (by omega : N ≤ 1000) hLl hwd wr _ _ _ _ hri (HL.out wr hglr)
            have hEb := evB_bij HLB.out hwd W.length (Nat.le_refl _)
            obtain ⟨E, hE⟩ : ∃ E, E = evB N L W W.length := ⟨_, rfl⟩
            rw [← hE] at hcw hEb hbad hnext
            have HW := Lib.hid (And.intro hbad (And.intro hnext (And.intro hEb hcw))); clear hbad hnext hEb hcw hri hwd hW hE hS
            go_wp2_with fail
            refine Calls.mono HW.out.2.2.2 ?_
            rintro e5 w5 ⟨v5, rfl, hg5, hO5⟩
            have hEi := hO5.ints (by rw [HW.out.2.2.1.1]; omega)
            obtain ⟨ea, ec, rfl, _, _⟩ := hEi.shape
            have hEl := HW.out.2.2.1.1
            rw [hEl]
            have hEx : ∀ t, t < N → ∃ b o, ea = some ⟨b, o, none⟩ ∧ w5.cell? ⟨b, o + t, none⟩ = some (.int .i64 (gt E t)) := fun t ht => by
              obtain ⟨b, o, h1, _, _, h2⟩ := Ints.at hEi t (by rw [hEl]; exact ht)
              exact ⟨b, o, h1, h2⟩
            have HE := Lib.hid (And.intro hEx hEl); clear hEx hEl hEi hO5 hcr
            have hgn := grown_trans hg hg5
            have hgw5 := grown_trans hgw hg5
            go_wp2
            go_loopw [63] (fun tv wq => wq = w5 ∧ ∃ t : Nat, tv = .int .i64 (t : Int) ∧ t ≤ N ∧ Hid (∀ s, s < t → gt E s = (s : Int))) (fun tv _ => N - (intOf tv).toNat)
            case atStart => exact ⟨by simp, 0, rfl, by omega, Lib.hid (fun s hs => by omega)⟩
            case round =>
              obtain ⟨rfl, t, rfl, ht, hT⟩ := hrel
              by_cases htl : t < N
              · have htl' : (t : Int) < N := by omega
                obtain ⟨eb, eo, hea, hce⟩ := HE.out.1 t htl
                subst hea
                by_cases hx : gt E t = (t : Int)
                · have hnx : ∀ s, s < t + 1 → gt E s = (s : Int) := fun s hs => by
                    rcases Nat.lt_succ_iff_lt_or_eq.1 hs with h1 | h1
                    · exact hT.out s h1
                    · rw [h1]; exact hx
                  rw [hx] at hce
                  have HN := Lib.hid hnx; clear hnx hx hT
                  have hnn : ((t : Int) != (t : Int)) = false := by simp
                  go_wp2
                  go_roundw
                  case rel => exact ⟨by simp, t + 1, by go_num, by omega, Lib.hid HN.out⟩
                  case measure => simp [intOf]; omega
                · obtain ⟨hc, hb2⟩ := HR.out.1 (HW.out.1 (fun e => hx (by rw [e]; exact gt_selfL htl)))
                  have HN := Lib.hid (And.intro hc hb2); clear hc hb2 hT
                  obtain ⟨y, hy⟩ : ∃ y, y = gt E t := ⟨_, rfl⟩
                  rw [← hy] at hce hx
                  have hnn : (y != (t : Int)) = true := by simpa using hx
                  clear hy hx
                  go_wp2
                  go_ret2
                  exact ⟨_, rfl, hgw5, by rw [HN.out.1, HN.out.2]; rfl⟩
              · have hte : t = N := by omega
                have hEe : E = selfL N := by
                  apply ext_gt
                  · rw [HE.out.2, selfL_len]
                  · intro s hs
                    have hs : s < N := by rw [← HE.out.2]; exact hs
                    rw [gt_selfL hs]; exact hT.out s (by omega)
                have HN := Lib.hid (HW.out.2.1 hEe); clear hEe hT
                have hnl : ¬ (t : Int) < N := by omega
                go_wp2
                go_roundw
                case rel => exact ⟨k + 1, by go_num, by omega, hgn, Lib.hid HN.out⟩
                case measure => simp [intOf]; omega
          · have hke : k = R.length := by omega
            have hrelB : ∀ x ∈ relsP P, evB N L x x.length = selfL N := fun x hx => by
              rw [← HRR.out.1] at hx
              obtain ⟨j, hj, rfl⟩ := mem_gt hx
              exact hS.out j (by omega)
            have hfin : (∀ t, t < N → Rch L t) ↔ RealB P L := by
              rw [HR.out.2.2]
              exact ⟨fun h => ⟨HLE.out, HLB.out, hrelB, h⟩, fun h => h.2.2.2⟩
            have HF := Lib.hid hfin; clear hfin hrelB hS
            have hnl : ¬ (k : Int) < R.length := by omega
            obtain ⟨w4, rfl⟩ : ∃ w4 : World, w4 = wr := ⟨_, rfl⟩
            clear hk hlt hke hg hrl
            go_wp2
            clear hnl
            go_loopw [15, 16] (fun rv iv wr => ∃ (i : Nat) (v5 : Value) (rl : List Int), v5 = rv ∧ iv = .int .i64 (i : Int) ∧ i ≤ N ∧ Ext w4 wr ∧ Own w4.heap.size wr v5 rl ∧ Hid (RchInv N L rl i 0)) (fun _ iv _ => N - (intOf iv).toNat)
            case atStart => exact ⟨0, _, [0], rfl, rfl, by omega, World.grownBy_alloc _ _ _, own_one0 (Nat.le_refl _) 0, Lib.hid (RchInv.start hN0 L)⟩
            case round =>
              obtain ⟨i, v5, rl, rfl, rfl, hi, hg, hO, hS⟩ := hrel
              have hrl := hS.out.len
              have hile := hS.out.le
              have hri := hO.ints (by omega)
              obtain ⟨ra, rc, rfl, _, _⟩ := hri.shape
              have hgwr := grown_trans hgw hg
              by_cases hlt : i < rl.length
              · have hlt' : (i : Int) < rl.length := by omega
                have HO := Lib.hid hO; clear hO hri
                go_wp2
                go_loopw [15, 82] (fun rv kv wq => ∃ (k : Nat) (v6 : Value) (rl2 : List Int), v6 = rv ∧ kv = .int .i64 (k : Int) ∧ k ≤ L.length ∧ Ext w4 wq ∧ Own w4.heap.size wq v6 rl2 ∧ Hid (RchInv N L rl2 i k ∧ i < rl2.length)) (fun _ kv _ => L.length - (intOf kv).toNat)
                case atStart => exact ⟨0, _, rl, rfl, rfl, by omega, hg, HO.out, Lib.hid ⟨hS.out, hlt⟩⟩
                case round =>
                  clear hrl hile hlt hlt' HO hg hgwr
                  obtain ⟨k, v6, rl2, rfl, rfl, hk, hg, hO, hT⟩ := hrel
                  have hrl := hT.out.1.len
                  have hilt := hT.out.2
                  have hri := hO.ints (by omega)
                  obtain ⟨qa2, qc2, rfl, _, _⟩ := hri.shape
                  by_cases hkl : k < L.length
                  · have hkl' : (k : Int) < L.length := by omega
                    obtain ⟨rb, ro, ra3, rc3, hab, _, _, hcr, hrow⟩ := Rows2.at (HL.out wr (grown_trans hglr hg)) k hkl
                    subst hab
                    obtain ⟨xb, xo, hxa, _, _, hcx⟩ := Ints.at hri i hilt
                    subst hxa
                    have hbb := HLB.out _ (gtMem hkl)
                    have hxr := hT.out.1.rg _ (gtMem hilt)
                    have hno := hT.out.1.no (k := k)
                    have hye := hT.out.1.yes hilt hkl hbb
                    obtain ⟨x, hx⟩ : ∃ x : Nat, x = (gt rl2 i).toNat := ⟨_, rfl⟩
                    have hxi : gt rl2 i = (x : Int) := by omega
                    rw [hxi] at hcx hxr
                    rw [← hx] at hno hye
                    obtain ⟨b, hb⟩ : ∃ b, b = gt L k := ⟨_, rfl⟩
                    rw [← hb] at hcr hrow hbb hno hye
                    have hxN : x < N := by omega
                    obtain ⟨yb, yo, hya, _, _, hcy⟩ := Ints.at hrow x (by rw [hbb.1]; exact hxN)
                    subst hya
                    obtain ⟨y, hy⟩ : ∃ y, y = gt b x := ⟨_, rfl⟩
                    rw [← hy] at hcy hno hye
                    have hbl : b.length = N := hbb.1
                    rw [hbl] at hcr
                    have hxb' : (x : Int) < N := by omega
                    have hilt' : (i : Int) < rl2.length := by omega
                    have hcon := containsJ_ok rl2 y wr _ Any hri
                    have hll : rl2.length ≤ 1000000 := by omega
                    have HX := Lib.hid (And.intro hcon (And.intro hno (And.intro hye hll))); clear hcon hno hye hri hrow hbb hxr hx hxi hb hbl hy hxN
                    have HO := Lib.hid hO; clear hO
                    clear hrl
                    by_cases hm : y ∈ rl2
                    · have hd : decide (y ∈ rl2) = true := decide_eq_true hm
                      have HM := Lib.hid (HX.out.2.1 hm)
                      have HD := Lib.hid hd; clear hd hm
                      go_wp2_with fail
                      refine Calls.mono HX.out.1 ?_
                      rintro e6 w6 ⟨v6, rfl, hg6, rfl⟩
                      rw [HD.out]
                      have hgn := grown_trans hg hg6
                      have hOn := HO.out.ext0 hg6
                      go_wp2
                      go_roundw
                      case rel => exact ⟨k + 1, _, rl2, rfl, by go_num, by omega, hgn, hOn, Lib.hid ⟨HM.out, hilt⟩⟩
                      case measure => simp [intOf]; omega
                    · have hd : decide (y ∈ rl2) = false := decide_eq_false hm
                      have HM := Lib.hid (HX.out.2.2.1 hm)
                      have HD := Lib.hid hd; clear hd hm
                      go_wp2_with fail
                      refine Calls.mono HX.out.1 ?_
                      rintro e6 w6 ⟨v6, rfl, hg6, rfl⟩
                      rw [HD.out]
                      have hgn := grown_trans hg hg6
                      have hOn := HO.out.ext0 hg6
                      have hcx := hg6.cell hcx (by simp)
                      have hcr := hg6.cell hcr (by simp)
                      have hcy := hg6.cell hcy (by simp)
                      go_wp2_with (first | (at_builtin; refine wp_app_int rfl _ _ rfl w4.heap.size _ rl2 y rfl w6 hOn rfl rfl HX.out.2.2.2 hgn.size ?_; intro v7 w7 hO7 hg7) | fail)
                      have hgn7 : Ext w4 w7 := grown_own hgn hg7 (fun j hj hlt => by have := (hOn.lt j hj).1; omega)
                      go_roundw
                      case rel => exact ⟨k + 1, v7, rl2 ++ [y], rfl, by go_num, by omega, hgn7, hO7, Lib.hid ⟨HM.out, by rw [List.length_append]; omega⟩⟩
                      case measure => simp [intOf]; omega
                  · have hke : k = L.length := by omega
                    have hnx := hT.out.1
                    rw [hke] at hnx
                    have hnx := hnx.next hilt
                    have hle2 := hnx.le
                    have HN := Lib.hid hnx; clear hnx hT hri
                    have hnl : ¬ (k : Int) < L.length := by omega
                    go_wp2
                    go_roundw
                    case rel => exact ⟨i + 1, _, rl2, rfl, by go_num, by omega, hg, hO, Lib.hid HN.out⟩
                    case measure => simp [intOf]; omega
              · have hie : i = rl.length := by omega
                have hd := hS.out
                rw [hie] at hd
                have hdone := hd.done.trans HF.out
                have HD := Lib.hid hdone; clear hd hdone hS hri
                have hnl : ¬ (i : Int) < rl.length := by omega
                obtain ⟨q, hq⟩ : ∃ q, q = rl.length := ⟨_, rfl⟩
                rw [← hq] at HD hnl ⊢
                clear hq hO hlt hie hrl hile
                by_cases hqn : q = N
                · obtain ⟨hc, hb2⟩ := HR.out.2.1 (HD.out.1 hqn)
                  have HC := Lib.hid (And.intro hc hb2); clear hc hb2
                  subst hqn
                  go_wp2
                  go_ret2
                  exact ⟨_, rfl, hgwr, by rw [HC.out.1, HC.out.2]; simp⟩
                · obtain ⟨hc, hb2⟩ := HR.out.1 (fun h => hqn (HD.out.2 h))
                  have HC := Lib.hid (And.intro hc hb2); clear hc hb2
                  have hqb : ((q : Int) == (N : Int)) = false := by simp; omega
                  clear hqn
                  go_wp2
                  go_ret2
                  exact ⟨_, rfl, hgwr, by rw [HC.out.1, HC.out.2]; rfl⟩

end Go.Proofs.YtoakmefajbbggaaGreat
namespace Go.Proofs.YtoakmefajbbggaaGreat
open Go.RowKit

theorem Ints.extA {S : Nat → Prop} {w w' : World} {v : Value} {xs : List Int} (h : Ints S w v xs) (hg : Ext w w') : Ints Any w' v xs := Ints.sub (Ints.ext h hg) (fun _ _ _ => trivial)
end Go.Proofs.YtoakmefajbbggaaGreat
namespace Go.Proofs.YtoakmefajbbggaaGreat
open Go.RowKit

set_option maxHeartbeats 400000 in
theorem likeInts_ok (v1 v2 : Value) (l1 l2 : List Int) (w : World) (S1 S2 : Nat → Prop) (h1 : Ints S1 w v1 l1) (h2 : Ints S2 w v2 l2) :
    Calls Tryz.prog 11 #[v1, v2] w (Ret w fun _ v => v = .bool (eqB l1 l2)) := by
  obtain ⟨a, cap, rfl, _, _⟩ := h1.shape
  obtain ⟨a2, cap2, rfl, _, _⟩ := h2.shape
  by_cases hl : l1.length = l2.length
  · have hd : ((l1.length : Int) != (l2.length : Int)) = false := by simp [hl]
    have hl1 : l1.length ≤ l2.length ∧ l2.length ≤ l1.length := by omega
    have HL := Lib.hid hl; clear hl
    go_enter Tryz.func11, Tryz.ntmps11
    go_wp2
    go_loopw [5] (fun i wr => ∃ k : Nat, i = .int .i64 k ∧ k ≤ l1.length ∧ Ext w wr ∧ ∀ i, i < k → gt l1 i = gt l2 i) (fun i _ => l1.length - (intOf i).toNat)
    case atStart => exact ⟨0, rfl, by omega, Ext.refl _, fun i hi => by omega⟩
    case round =>
      obtain ⟨k, rfl, hk, hg, hz⟩ := hrel
      have HZ := Lib.hid hz; clear hz
      by_cases hlt : k < l1.length
      · obtain ⟨b, off, rfl, _, _, hc⟩ := Ints.at (h1.ext hg) k hlt
        obtain ⟨b2, off2, rfl, _, _, hc2⟩ := Ints.at (h2.ext hg) k (by omega)
        by_cases hx : gt l1 k = gt l2 k
        · have hb : (gt l1 k != gt l2 k) = false := by simp [hx]
          have hx2 := Lib.hid hx; clear hx
          go_wp2
          go_quiet (fail)
          go_wp2
          go_roundw
          case rel => exact ⟨k + 1, by go_num, by omega, grown_trans hg (grown_drewN _ _ _), fun i hi => by
            rcases Nat.lt_or_ge i k with h1 | h1
            · exact HZ.out i h1
            · have : i = k := by omega
              rw [this, hx2.out]⟩
          case measure => simp [intOf]; omega
        · have hb : (gt l1 k != gt l2 k) = true := by simp [hx]
          have hx2 := Lib.hid hx; clear hx
          go_wp2
          go_quiet (fail)
          go_wp2
          go_ret
          exact ret_bool (grown_trans hg (grown_drewN _ _ _)) (by rw [eqB_false_at (hx := hx2.out)])
      · go_wp2
        go_ret
        exact ret_bool hg (by rw [eqB_true.2 (ext_gt HL.out (fun i hi => HZ.out i (by omega)))])
  · have hd : ((l1.length : Int) != (l2.length : Int)) = true := by simp; omega
    have HL := Lib.hid hl; clear hl
    go_enter Tryz.func11, Tryz.ntmps11
    go_wp2
    go_ret
    exact ret_bool (Ext.refl _) (by rw [eqB_false.2 (fun h => HL.out (by rw [h]))])

set_option maxRecDepth 100000 in
set_option maxHeartbeats 2000000 in
theorem like29_ok (v1 v2 : Value) (l1 l2 : List (List Int)) (w : World) (S1 S2 : Nat → Prop) (h1 : Rows2 S1 w v1 l1) (h2 : Rows2 S2 w v2 l2) :
    Calls Tryz.prog 24 #[v1, v2] w (Ret w fun _ v => v = .bool (eqB l1 l2)) := by
  obtain ⟨a, cap, rfl, _, _⟩ := Sl.shape h1
  obtain ⟨a2, cap2, rfl, _, _⟩ := Sl.shape h2
  by_cases hl : l1.length = l2.length
  · have hd : ((l1.length : Int) != (l2.length : Int)) = false := by simp [hl]
    have hl1 : l1.length ≤ l2.length ∧ l2.length ≤ l1.length := by omega
    have HL := Lib.hid hl; clear hl
    go_enter Tryz.func24, Tryz.ntmps24
    go_wp2
    go_loopw [5] (fun i wr => ∃ k : Nat, i = .int .i64 k ∧ k ≤ l1.length ∧ Ext w wr ∧ ∀ i, i < k → gt l1 i = gt l2 i) (fun i _ => l1.length - (intOf i).toNat)
    case atStart => exact ⟨0, rfl, by omega, Ext.refl _, fun i hi => by omega⟩
    case round =>
      obtain ⟨k, rfl, hk, hg, hz⟩ := hrel
      have HZ := Lib.hid hz; clear hz
      by_cases hlt : k < l1.length
      · obtain ⟨b, off, x1, c1, rfl, _, _, hc, hi1⟩ := Rows2.at (Rows2.ext h1 hg) k hlt
        obtain ⟨b2, off2, x2, c2, rfl, _, _, hc2, hi2⟩ := Rows2.at (Rows2.ext h2 hg) k (by omega)
        have e1 : ∀ w', Ext wr w' → w'.cell? ⟨b, off + k, none⟩ = some (.slice x1 (gt l1 k).length c1) := fun w' h => h.cell hc (by simp)
        have e2 : ∀ w', Ext wr w' → w'.cell? ⟨b2, off2 + k, none⟩ = some (.slice x2 (gt l2 k).length c2) := fun w' h => h.cell hc2 (by simp)
        clear hc hc2
        have hlt2 : k < l2.length := by omega
        go_wp2
        cases hx : eqB (gt l1 k) (gt l2 k) with
        | true =>
          have hx2 := Lib.hid hx
          go_region_held3 (fun w' => Ext wr w') (first | exact grown_drew _ _ | assumption)
            (first
              | (go_at_call 11; refine Calls.mono (Calls.rel (w0 := wr) (by assumption) (likeInts_ok _ _ _ _ _ Any Any ((Ints.extA hi1 (by assumption))) (Ints.extA hi2 (by assumption)))) ?_; rintro eA wA ⟨vA, rfl, hgA, hsA, rfl⟩))
          clear e1 e2
          go_wp2
          go_roundw
          case rel => exact ⟨k + 1, by go_num, by omega, grown_trans hg hgA, fun i hi => by
            rcases Nat.lt_or_ge i k with h1 | h1
            · exact HZ.out i h1
            · have : i = k := by omega
              rw [this]; exact eqB_true.1 hx2.out⟩
          case measure => simp [intOf]; omega
        | false =>
          have hx2 := Lib.hid hx
          go_region_held3 (fun w' => Ext wr w') (first | exact grown_drew _ _ | assumption)
            (first
              | (go_at_call 11; refine Calls.mono (Calls.rel (w0 := wr) (by assumption) (likeInts_ok _ _ _ _ _ Any Any (Ints.extA hi1 (by assumption)) (Ints.extA hi2 (by assumption)))) ?_; rintro eA wA ⟨vA, rfl, hgA, hsA, rfl⟩))
          clear e1 e2
          go_wp2
          go_ret
          exact ret_bool (grown_trans hg hgA) (by rw [eqB_false_at (hx := eqB_false.1 hx2.out)])
      · go_wp2
        go_ret
        exact ret_bool hg (by rw [eqB_true.2 (ext_gt HL.out (fun i hi => HZ.out i (by omega)))])
  · have hd : ((l1.length : Int) != (l2.length : Int)) = true := by simp; omega
    have HL := Lib.hid hl; clear hl
    go_enter Tryz.func24, Tryz.ntmps24
    go_wp2
    go_ret
    exact ret_bool (Ext.refl _) (by rw [eqB_false.2 (fun e => HL.out (by rw [e]))])

end Go.Proofs.YtoakmefajbbggaaGreat
namespace Go.Proofs.YtoakmefajbbggaaGreat
open Go.RowKit

theorem u64_bd (z : Int) : 0 ≤ IntKind.u64.wrap z ∧ IntKind.u64.wrap z < 18446744073709551616 := by
  have h : IntKind.u64.wrap z = z % 18446744073709551616 := by simp [IntKind.wrap, IntKind.signed, IntKind.bits]
  rw [h]
  exact ⟨Int.emod_nonneg _ (by decide), Int.emod_lt_of_pos _ (by decide)⟩

theorem below_bits (h : Int) (h0 : 0 ≤ h) (h1 : h < 18446744073709551616) : ∃ x : Int, 0 ≤ x ∧ x < 16777216 ∧ bits .and .u64 (h / 8589934592) 16777215 = x := by
  obtain ⟨n, rfl⟩ : ∃ n : Nat, h = n := ⟨h.toNat, by omega⟩
  have hq : n / 8589934592 < 2 ^ 64 := by omega
  have e := u64_and_nat (n / 8589934592) 16777215 hq (by decide)
  refine ⟨((n / 8589934592 &&& 16777215 : Nat) : Int), by omega, ?_, ?_⟩
  · have := Nat.and_lt_two_pow (n := 24) (n / 8589934592) (y := 16777215) (by decide)
    have h2 : (2 : Nat) ^ 24 = 16777216 := by decide
    omega
  · rw [← e]; rfl

end Go.Proofs.YtoakmefajbbggaaGreat
