/-
  Drawing: spec.l07Draw.
  Drawing: spec.l12Pair and spec.l13Draw.
  Drawing: spec.l01From makes the source of numbers.
  spec.l07Relators.
  Collecting, the program's side: impl.positiveWord, reducible, reducibleAt.
  What a run does to the count of draws: it never falls.
  slices.Concat at integers: the numbers of all rows, in order. cmp.Or at int.
  Collecting, the program's side: impl.stepAt.
  Collecting, the program's side: impl.collect, CollectWord with the greatest limit.
  impl.CollectWord at the greatest limit.
-/
import Derived.Test.YtoakmefajbbggaaGreatQ1
import Derived.Test.YtoakmefajbbggaaGreatQ10
import Derived.Test.YtoakmefajbbggaaGreatQ2
import Derived.Test.YtoakmefajbbggaaGreatQ3
import Derived.Test.YtoakmefajbbggaaGreatQ4
import Derived.Test.YtoakmefajbbggaaGreatQ5
import Derived.Test.YtoakmefajbbggaaGreatQ7
import Derived.Test.YtoakmefajbbggaaGreatQ9
import Derived.StillTailTactics
import Derived.Deep.CutBlock
import Derived.Deep.DeepCutAuto
import Derived.Shelf.Spec.SlicesGrow
import Derived.Deep.RegionHeld3
namespace Go.Proofs.YtoakmefajbbggaaGreat
open Go.RowKit
attribute [local go_sem ↓] Go.wp_at_zero Go.wp_at_succ

set_option maxRecDepth 100000 in
set_option maxHeartbeats 16000000 in
theorem l07DrawL_ok (B0 : Nat) (w : World) (sb : Nat) (limit : Int) (hB0 : B0 ≤ w.heap.size) (hs : Src B0 w sb) :
    Calls Tryz.prog 85 #[.pointer (some ⟨sb, 0, none⟩), .int .i64 limit] w (Mut w (some sb) (DrawR B0 sb (PresAL 7 (LimOk limit) w.heap.size))) := by
  have hsb := hs.lt
  have hbB := Box3.made w 28 (.slice none 0 0) (.slice none 0 0) (.slice none 0 0)
  have hg0 : Ext w (w.alloc (.cells #[.slice none 0 0, .slice none 0 0, .slice none 0 0] 28)) := World.grownBy_alloc _ _ _
  have hs0 : (w.alloc (.cells #[.slice none 0 0, .slice none 0 0, .slice none 0 0] 28)).heap.size = w.heap.size + 1 := by simp
  have hsW := Lib.hid (hs.ext hg0); clear hs
  go_enter Tryz.func85, Tryz.ntmps85
  go_wp2_with fail
  generalize w.alloc (.cells #[.slice none 0 0, .slice none 0 0, .slice none 0 0] 28) = w0 at *
  have hs00 : w.heap.size + 1 ≤ w0.heap.size := by omega
  clear hs0
  refine Calls.mono (l07GroupL_ok B0 w0 sb limit (by omega) hsW.out) ?_
  rintro e1 w1 ⟨v1, rfl, hg1, hP1, hs1⟩
  obtain ⟨vo, vp, vc, Q, rfl, hV, hQ, hLQ⟩ := hP1
  have HLQ := Lib.hid hLQ; clear hLQ
  obtain ⟨a1, n1, c1, a2, n2, c2, a3, n3, c3, rfl, rfl, rfl⟩ := PresN3.shape ⟨Q, hV.shp, hQ⟩
  have hgq : Ext w1 (w1.alloc (.cells #[.slice a1 n1 c1, .slice a2 n2 c2, .slice a3 n3 c3] 28)) := World.grownBy_alloc _ _ _
  have hbQ := Box3.made w1 28 (.slice a1 n1 c1) (.slice a2 n2 c2) (.slice a3 n3 c3)
  obtain ⟨pb, hpb⟩ : ∃ pb, pb = w1.heap.size := ⟨_, rfl⟩
  rw [← hpb] at hbQ
  have hs1' := hg1.size
  have hQ2 : Pres3 (fun k => w0.heap.size ≤ k ∧ k ≠ pb) (w1.alloc (.cells #[.slice a1 n1 c1, .slice a2 n2 c2, .slice a3 n3 c3] 28)) (.slice a1 n1 c1) (.slice a2 n2 c2) (.slice a3 n3 c3) Q := hQ.mono (fun k hk hlt => ⟨⟨hk, by omega⟩, Nat.lt_of_lt_of_le hlt hgq.size, hgq.block k hlt (by simp)⟩)
  have hb1 := hbB.moved hg1 (by omega)
  have hb2 := hb1.ext hgq
  have hs2 := hs1.ext hgq
  have hgw2 := grown_trans (grown_of_ext (some sb) hg0) (grown_trans hg1 (grown_of_ext (some sb) hgq))
  have HP := Lib.hid hpb
  have HQ := Lib.hid (And.intro hQ2 (And.intro hs2 hV)); clear hQ hQ2 hs2 hs1 hV hg1 hbB hg0 hsW hb1 hgq
  go_wp2_with fail
  rw [← HP.out]
  generalize w1.alloc (.cells #[.slice a1 n1 c1, .slice a2 n2 c2, .slice a3 n3 c3] 28) = w2 at *
  have hpw : w0.heap.size ≤ pb := by omega
  clear hpb HP hs1'
  refine Calls.mono (l01Next_ok B0 w2 sb 24 HQ.out.2.1) ?_
  rintro e3 w3 ⟨v3, rfl, hg3, x, rfl, _, hx1, hs3⟩
  have hb3 := hb2.moved hg3 (by omega)
  have hbQ3 := hbQ.moved hg3 (by omega)
  have hQ3 : Pres3 (fun k => w0.heap.size ≤ k ∧ k ≠ pb) w3 (.slice a1 n1 c1) (.slice a2 n2 c2) (.slice a3 n3 c3) Q := HQ.out.1.mono (fun k hk hlt => ⟨hk, Nat.lt_of_lt_of_le hlt hg3.size, hg3.block k hlt (fun e => by have := Option.some.inj e; omega)⟩)
  have hgw3 := grown_trans hgw2 hg3
  have hV := HQ.out.2.2
  have hsz3 := hgw3.size
  have hp3 := hbQ3.1
  have HQ := Lib.hid (And.intro hQ3 (And.intro hs3 hV)); clear hQ3 hs3 hV hg3 hbQ hb2 hgw2 hx1
  obtain ⟨q0, q1, q2, q3, q4⟩ := id hbQ3
  by_cases hx0 : x = 0
  · have hxb : (x == 0) = true := by simp [hx0]
    clear hx0
    go_wp2_with fail
    refine Calls.mono (l07BendL_ok B0 w3 sb _ Q _ (by omega) HQ.out.2.1 ⟨_, _, _, rfl, HQ.out.1⟩ HQ.out.2.2) ?_
    rintro e4 w4 ⟨v4, rfl, hg4, ⟨uo, up, uc, R, rfl, hRl, hR, hRo⟩, hs4⟩
    obtain ⟨y1, m1, k1, hy1⟩ : ∃ a n c, uo = .slice a n c := by obtain ⟨a, c, e, _⟩ := hR.o.shape; exact ⟨_, _, _, e⟩
    obtain ⟨y2, m2, k2, hy2⟩ : ∃ a n c, up = .slice a n c := by obtain ⟨a, c, e, _⟩ := Sl.shape hR.p; exact ⟨_, _, _, e⟩
    obtain ⟨y3, m3, k3, hy3⟩ : ∃ a n c, uc = .slice a n c := by obtain ⟨a, c, e, _⟩ := Sl.shape hR.c; exact ⟨_, _, _, e⟩
    subst hy1 hy2 hy3
    have hb4 := hb3.moved hg4 (by omega)
    have hgw4 := grown_trans hgw3 hg4
    obtain ⟨b0, b1, b2, b3, b4⟩ := id hb4
    have hZ := hb4.all (.slice y1 m1 k1) (.slice y2 m2 k2) (.slice y3 m3 k3)
    obtain ⟨-, z0, z1, z2, -⟩ := id hZ
    have HF := Lib.hid (And.intro hgw4 (And.intro hs4 (And.intro hR (And.intro hRl (HLQ.out.le HQ.out.2.2 hRo))))); clear hZ hgw4 hs4 hR hRl hb4 hg4 hRo
    go_wp2_with fail
    refine bodyPost_ret (v := .agg #[.slice y1 m1 k1, .slice y2 m2 k2, .slice y3 m3 k3]) (by simp [results, Tryz.results85, go_sem, z0, z1, z2]) rfl ?_
    exact a_ret HF.out.1 (br := w.heap.size) (Nat.le_refl _) (fun k hk _ => by have hk : w3.heap.size ≤ k := hk; exact ⟨by omega, by omega⟩) HF.out.2.1 hB0 HF.out.2.2.2.1 HF.out.2.2.1 HF.out.2.2.2.2
  have hxb : (x == 0) = false := by simp [hx0]
  by_cases hx12 : x = 1 ∨ x = 2
  · rcases hx12 with rfl | rfl
    all_goals
      clear hx0
      go_wp2_with fail
      refine Calls.mono (l07TurnL_ok B0 w3 sb _ Q _ (by omega) HQ.out.2.1 ⟨_, _, _, rfl, HQ.out.1⟩ HQ.out.2.2) ?_
      rintro e4 w4 ⟨v4, rfl, hg4, ⟨uo, up, uc, R, rfl, hRl, hR, hRo⟩, hs4⟩
      obtain ⟨y1, m1, k1, hy1⟩ : ∃ a n c, uo = .slice a n c := by obtain ⟨a, c, e, _⟩ := hR.o.shape; exact ⟨_, _, _, e⟩
      obtain ⟨y2, m2, k2, hy2⟩ : ∃ a n c, up = .slice a n c := by obtain ⟨a, c, e, _⟩ := Sl.shape hR.p; exact ⟨_, _, _, e⟩
      obtain ⟨y3, m3, k3, hy3⟩ : ∃ a n c, uc = .slice a n c := by obtain ⟨a, c, e, _⟩ := Sl.shape hR.c; exact ⟨_, _, _, e⟩
      subst hy1 hy2 hy3
      have hb4 := hb3.moved hg4 (by omega)
      have hgw4 := grown_trans hgw3 hg4
      obtain ⟨b0, b1, b2, b3, b4⟩ := id hb4
      have hZ := hb4.all (.slice y1 m1 k1) (.slice y2 m2 k2) (.slice y3 m3 k3)
      obtain ⟨-, z0, z1, z2, -⟩ := id hZ
      have HF := Lib.hid (And.intro hgw4 (And.intro hs4 (And.intro hR (And.intro hRl (HLQ.out.le HQ.out.2.2 hRo))))); clear hZ hgw4 hs4 hR hRl hb4 hg4 hRo
      go_wp2_with fail
      refine bodyPost_ret (v := .agg #[.slice y1 m1 k1, .slice y2 m2 k2, .slice y3 m3 k3]) (by simp [results, Tryz.results85, go_sem, z0, z1, z2]) rfl ?_
      exact a_ret HF.out.1 (br := w.heap.size) (Nat.le_refl _) (fun k hk _ => by have hk : w3.heap.size ≤ k := hk; exact ⟨by omega, by omega⟩) HF.out.2.1 hB0 HF.out.2.2.2.1 HF.out.2.2.1 HF.out.2.2.2.2
  · have hxb1 : (x == 1) = false := by simp; omega
    have hxb2 : (x == 2) = false := by simp; omega
    clear hx12 hx0
    obtain ⟨b0, b1, b2, b3, b4⟩ := id hb3
    have hZ := hb3.all (.slice a1 n1 c1) (.slice a2 n2 c2) (.slice a3 n3 c3)
    obtain ⟨-, z0, z1, z2, -⟩ := id hZ
    have HF := Lib.hid hgw3; clear hZ hgw3 hb3
    go_wp2_with fail
    refine bodyPost_ret (v := .agg #[.slice a1 n1 c1, .slice a2 n2 c2, .slice a3 n3 c3]) (by simp [results, Tryz.results85, go_sem, z0, z1, z2]) rfl ?_
    exact a_ret HF.out (br := w.heap.size) (Nat.le_refl _) (fun k hk _ => ⟨by omega, by omega⟩) HQ.out.2.1 hB0 (by have := HQ.out.2.2.n6; omega) HQ.out.1 HLQ.out

theorem l07Draw_ok (B0 : Nat) (w : World) (sb : Nat) (limit : Int) (hB0 : B0 ≤ w.heap.size) (hs : Src B0 w sb) :
    Calls Tryz.prog 85 #[.pointer (some ⟨sb, 0, none⟩), .int .i64 limit] w (Mut w (some sb) (DrawR B0 sb (PresA 7 w.heap.size))) :=
  Calls.mono (l07DrawL_ok B0 w sb limit hB0 hs) (fun _ _ ⟨v, h1, h2, ⟨vo, vp, vc, Q, h3, h4, h5, _⟩, h6⟩ => ⟨v, h1, h2, ⟨vo, vp, vc, Q, h3, h4, h5⟩, h6⟩)

end Go.Proofs.YtoakmefajbbggaaGreat
namespace Go.Proofs.YtoakmefajbbggaaGreat
open Go.RowKit
attribute [local go_sem ↓] Go.wp_at_zero Go.wp_at_succ

theorem Pres3.keptB {B : Nat} {r : Option Nat} {w w' : World} {vo vp vc : Value} {P : Pr} (h : Pres3 (From B) w vo vp vc P) (hg : w.grownBy w' r) (hr : ∀ k, r = some k → k < B) : Pres3 (From B) w' vo vp vc P :=
  h.mono (frame_of hg (fun k hk _ => ⟨hk, fun e => by have := hr k e; have hk : B ≤ k := hk; omega⟩))
theorem Pres3.low {B B' : Nat} {w : World} {vo vp vc : Value} {P : Pr} (h : Pres3 (From B) w vo vp vc P) (hB : B' ≤ B) : Pres3 (From B') w vo vp vc P :=
  h.mono (fun _ hk hlt => ⟨Nat.le_trans hB hk, hlt, rfl⟩)

end Go.Proofs.YtoakmefajbbggaaGreat
namespace Go.Proofs.YtoakmefajbbggaaGreat
open Go.RowKit
attribute [local go_sem ↓] Go.wp_at_zero Go.wp_at_succ

set_option maxRecDepth 100000 in
set_option maxHeartbeats 8000000 in
theorem l01From_ok (w : World) (cv : Value) (bs : List Int) (S : Nat → Prop) (hb : Bytes S w cv bs) :
    Calls Tryz.prog 49 #[cv] w (Ret w fun w' v => v = .pointer (some ⟨w.heap.size, 0, none⟩) ∧ Src (w.heap.size + 1) w' w.heap.size) := by
  obtain ⟨a, cap, rfl, _, hlen⟩ := Sl.shape hb
  have hbA := Box3.made w 124 (.slice a bs.length cap) (.int .i64 0) (.int .i64 76001)
  have hgA : Ext w (w.alloc (.cells #[.slice a bs.length cap, .int .i64 0, .int .i64 76001] 124)) := World.grownBy_alloc _ _ _
  go_enter Tryz.func49, Tryz.ntmps49
  go_wp2_with fail
  generalize w.alloc (.cells #[.slice a bs.length cap, .int .i64 0, .int .i64 76001] 124) = w0 at *
  go_loopw [4] (fun iv wr => ∃ (i seed : Nat), iv = .int .i64 i ∧ i ≤ bs.length ∧ seed < 2147483647 ∧ Ext w wr ∧ Box3 wr w.heap.size (.slice a bs.length cap) (.int .i64 0) (.int .i64 seed)) (fun iv _ => bs.length - (intOf iv).toNat)
  case atStart => exact ⟨0, 76001, rfl, by omega, by omega, hgA, hbA⟩
  case round =>
    clear hbA hgA
    obtain ⟨i, seed, rfl, hi, hs, hg, hB⟩ := hrel
    by_cases hlt : i < bs.length
    · by_cases h64 : i < 64
      · obtain ⟨b, off, rfl, hbS, hbl, hcb, hx0, hx1⟩ := Bytes.at hb i hlt
        have hcr := hg.cell hcb (by simp)
        generalize gt bs i = x at hcb hcr hx0 hx1
        have hli : (i : Int) < (bs.length : Nat) := by omega
        have h6i : (i : Int) < 64 := by omega
        obtain ⟨s2, hs2⟩ : ∃ s2 : Nat, ((seed : Int) * 71 + x) % 2147483647 = (s2 : Int) ∧ s2 < 2147483647 := ⟨(((seed : Int) * 71 + x) % 2147483647).toNat, by omega, by omega⟩
        have hBs := (hB.put (.int .i64 (s2 : Nat))).2.2
        have hgs := grown_set wr w.heap.size 2 (.int .i64 (s2 : Nat))
        have hgn : Ext w (wr.setCell ⟨w.heap.size, 2, none⟩ (.int .i64 (s2 : Nat))) := grown_own hg hgs (fun j hj hlt => by have := Option.some.inj hj; omega)
        have hBd := hBs.ext (grown_drew (wr.setCell ⟨w.heap.size, 2, none⟩ (.int .i64 (s2 : Nat))) none)
        have hgd := grown_trans hgn (grown_drew (wr.setCell ⟨w.heap.size, 2, none⟩ (.int .i64 (s2 : Nat))) none)
        have hw1 : IntKind.i64.wrap ((seed : Int) * 71) = (seed : Int) * 71 := IntWalk.i64_in _ (by omega)
        have hw2 : IntKind.i64.wrap ((seed : Int) * 71 + x) = (seed : Int) * 71 + x := IntWalk.i64_in _ (by omega)
        have hw0 : IntKind.i64.wrap x = x := IntWalk.i64_in _ (by omega)
        have hrem : ((seed : Int) * 71 + x).tmod 2147483647 = (s2 : Int) := by rw [Int.tmod_eq_emod_of_nonneg (by omega)]; exact hs2.1
        obtain ⟨h0, h1, h2, h3, h4⟩ := id hB
        have c0 : wr.drew.cell? ⟨w.heap.size, 2, none⟩ = some (.int .i64 seed) := h3
        have c1 : wr.drew.cell? ⟨b, off + i, none⟩ = some (.int .u8 x) := hcr
        have c2 : w.heap.size < wr.drew.heap.size := h0
        have c3 := h4
        have HQ := Lib.hid (And.intro hgd (And.intro hBd (And.intro hs2.2 hb))); clear hgd hBd hs2 hb hgn hgs hBs hB hg h0 h1 h2 h3 hcb hcr
        go_wp2
        go_still_tail 15, (by kernel_rfl)
        change wpList _ _ _ _ _ wr.drew
        go_wp2
        go_roundw
        case rel => exact ⟨i + 1, s2, by go_num, by omega, HQ.out.2.2.1, HQ.out.1, HQ.out.2.1⟩
        case measure => simp [intOf]; omega
      · have hli : (i : Int) < (bs.length : Nat) := by omega
        have h6i : ¬ (i : Int) < 64 := by omega
        have HQ := Lib.hid (And.intro hg hB); clear hg hB
        go_wp2
        go_ret
        exact ⟨_, rfl, HQ.out.1, rfl, _, 0, seed, bs, HQ.out.2, Bytes.mono hb (fun k _ hlt => ⟨⟨by omega, by omega⟩, Nat.lt_of_lt_of_le hlt HQ.out.1.size, HQ.out.1.block k hlt (by simp)⟩), by omega, hs, by omega⟩
    · have hli : ¬ (i : Int) < (bs.length : Nat) := by omega
      have HQ := Lib.hid (And.intro hg hB); clear hg hB
      go_wp2
      go_ret
      exact ⟨_, rfl, HQ.out.1, rfl, _, 0, seed, bs, HQ.out.2, Bytes.mono hb (fun k _ hlt => ⟨⟨by omega, by omega⟩, Nat.lt_of_lt_of_le hlt HQ.out.1.size, HQ.out.1.block k hlt (by simp)⟩), by omega, hs, by omega⟩

end Go.Proofs.YtoakmefajbbggaaGreat
namespace Go.Proofs.YtoakmefajbbggaaGreat
open Go.RowKit

set_option maxRecDepth 100000 in
set_option maxHeartbeats 4000000 in
theorem l07Relators_ok (P : Pr) (hP : Valid P) (w : World) (pv : Value) (Sp : Nat → Prop) (hpv : PresV Sp w pv P) :
    Calls Tryz.prog 65 #[pv] w (Ret w fun w' v => RowsO w.heap.size w' v (relsP P)) := by
  have hn6 := hP.n6
  have hpl : P.powers.length ≤ P.orders.length ∧ P.orders.length ≤ P.powers.length := by have := hP.pl; omega
  have hcl : P.conj.length ≤ P.orders.length ∧ P.orders.length ≤ P.conj.length := by have := hP.cl; omega
  obtain ⟨vo, vp, vc, rfl, h3⟩ := hpv
  obtain ⟨ao, capo, rfl, _, _⟩ := h3.o.shape
  obtain ⟨ap, capp, rfl, _, _⟩ := Sl.shape h3.p
  obtain ⟨ac, capc, rfl, _, _⟩ := Sl.shape h3.c
  have hg0 : Ext w (w.alloc (.cells #[.slice ao P.orders.length capo, .slice ap P.powers.length capp, .slice ac P.conj.length capc] 28)) := World.grownBy_alloc _ _ _
  have hs0 : (w.alloc (.cells #[.slice ao P.orders.length capo, .slice ap P.powers.length capp, .slice ac P.conj.length capc] 28)).heap.size = w.heap.size + 1 := by simp
  have h30 := h3.ext hg0
  obtain ⟨_, hco, hcp, hcc, _⟩ := Box3.made w 28 (.slice ao P.orders.length capo) (.slice ap P.powers.length capp) (.slice ac P.conj.length capc)
  have hoi := h30.o
  have hpi := h30.p
  have hci := h30.c
  have HO := Lib.hid hP.ord7
  go_enter Tryz.func65, Tryz.ntmps65
  go_wp2
  have HS := Lib.hid hs0; clear hs0
  generalize hw0 : w.alloc (.cells #[.slice ao P.orders.length capo, .slice ap P.powers.length capp, .slice ac P.conj.length capc] 28) = w0 at *
  clear hw0
  have hga : Ext w0 (w0.alloc (.cells #[] 24)) := World.grownBy_alloc _ _ _
  go_loopw [3, 5] (fun ov iv wr => ∃ (i : Nat) (v4 : Value), v4 = ov ∧ iv = .int .i64 i ∧ i ≤ P.orders.length ∧ Ext w0 wr ∧ RowsO w0.heap.size wr v4 (relPs P i)) (fun _ iv _ => P.orders.length - (intOf iv).toNat)
  case atStart => exact ⟨0, _, rfl, rfl, by omega, hga, [], fun _ _ => False, rfl, by rw [← HS.out]; exact World.ownsRow_lit w0 #[] 0 (Nat.le_refl _) (by decide) rfl, by simp, by simp, by simp [relPs]⟩
  case round =>
    clear hga
    obtain ⟨i, v4, rfl, rfl, hi, hg, hO⟩ := hrel
    have hrl := relPs_len P i
    obtain ⟨R, hR⟩ : ∃ R, R = relPs P i := ⟨_, rfl⟩
    rw [← hR] at hO hrl
    have hRl := Lib.hid hrl; clear hrl
    by_cases hlt : i < P.orders.length
    · have hlt' : (i : Int) < P.orders.length := by omega
      obtain ⟨b, off, rfl, _, _, hc⟩ := Ints.at hoi i hlt
      obtain ⟨x, hx⟩ : ∃ x, x = (gt P.orders i).toNat := ⟨_, rfl⟩
      have hx0 := HO.out i hlt
      have hxe : gt P.orders i = (x : Int) := by omega
      have hx7 : 1 ≤ x ∧ x ≤ 1000 := by omega
      rw [hxe] at hc
      have hrel : relPow P i = List.replicate x ((i : Int) + 1) ++ invWord (nWord (gt P.powers i) P.orders.length) := by rw [hx]; rfl
      have hrl2 := relPow_len hP hlt
      have hvw := vec_word hP (hP.pv i hlt).1
      have hvl : (gt P.powers i).length ≤ 6 := by rw [(hP.pv i hlt).1.1]; exact hn6
      have hnx : relPs P (i + 1) = R ++ [relPow P i] := by rw [hR]; rfl
      have HX := Lib.hid (And.intro hrel (And.intro hrl2 (And.intro hvw (And.intro hnx hvl)))); clear hrel hrl2 hvw hnx hx0 hx hxe hR hvl
      have hi1 : (i : Int) < P.powers.length := by omega
      obtain ⟨bp, op, a2, cap2, rfl, _, _, hcpi, hrp⟩ := Rows2.at hpi i (by omega)
      have hwi : IntKind.i64.wrap ((i : Int) + 1) = (i : Int) + 1 := IntWalk.i64_in _ (by omega)
      go_wp2
      obtain ⟨wo, rfl⟩ : ∃ wo : World, wo = wr := ⟨_, rfl⟩
      have hgl : Ext wo (wo.alloc (.cells #[] 2)) := World.grownBy_alloc _ _ _
      go_loopw [6, 7] (fun ov kv wr => ∃ (k : Nat) (v6 : Value), v6 = ov ∧ kv = .int .i64 k ∧ k ≤ x ∧ Ext wo wr ∧ Own wo.heap.size wr v6 (List.replicate k ((i : Int) + 1))) (fun _ kv _ => x - (intOf kv).toNat)
      case atStart => exact ⟨0, _, rfl, rfl, by omega, hgl, World.ownsRow_lit wo #[] 0 (Nat.le_refl _) (by decide) rfl⟩
      case round =>
        clear hgl
        obtain ⟨k, v6, rfl, rfl, hk, hgk, hOk⟩ := hrel
        have hgw := grown_trans hg hgk
        have hb0 := hgw.cell hco (by simp)
        have hbc := hgw.cell hc (by simp)
        by_cases hltk : k < x
        · have hltk' : (k : Int) < x := by omega
          have hlen : (List.replicate k ((i : Int) + 1)).length ≤ 1000 := by rw [List.length_replicate]; omega
          have HL := Lib.hid hlen; clear hlen
          go_wp2_with (first | (at_builtin; refine wp_app_ints rfl _ _ rfl wo.heap.size v6 _ rfl (hOk.ext0 (World.grownBy_alloc _ _ _)) _ _ rfl Any (ints_lit wr _) (by have := HL.out; simp only [List.length_cons, List.length_nil]; omega) (by have := hgk.size; simp; omega) ?_; intro v5 w5 hO5 hg5 _) | fail)
          have hg5' : wr.grownBy w5 v6.ownBlock := grown_trans (grown_of_ext _ (World.grownBy_alloc _ _ _)) hg5
          have hge : Ext wo w5 := grown_own hgk hg5' (fun b hb hlt => by have := (hOk.lt b hb).1; omega)
          rw [← List.replicate_succ'] at hO5
          clear hOk hg5 hg5' hb0 hbc
          go_roundw
          case rel => exact ⟨k + 1, v5, rfl, by go_num, by omega, hge, hO5⟩
          case measure => simp [intOf]; omega
        · have hke : k = x := by omega
          subst hke
          have hb1 := hgw.cell hcp (by simp)
          have hbp := hgw.cell hcpi (by simp)
          go_wp2_with fail
          refine Calls.mono (l07Word_ok wr _ (gt P.powers i) Any (Ints.sub (Ints.ext hrp hgw) (fun _ _ _ => trivial)) HX.out.2.2.2.2 HX.out.2.2.1.1) ?_
          rintro eN wN ⟨vN, rfl, hgN, hON⟩
          rw [HX.out.2.2.1.2.1] at hON
          have hNi := hON.ints (by have := HX.out.2.2.1.2.2.1; omega)
          go_wp2_with fail
          refine Calls.mono (l06Invert_ok wN _ (nWord (gt P.powers i) P.orders.length) Any (Ints.sub hNi (fun _ _ _ => trivial)) (by have := HX.out.2.2.1.2.2.1; omega) HX.out.2.2.1.2.2.2) ?_
          rintro eI wI ⟨vI, rfl, hgI, hOI⟩
          have hIi := hOI.ints (by rw [invWord_len]; have := HX.out.2.2.1.2.2.1; omega)
          have hgNI := grown_trans hgN hgI
          have hOl2 := hOk.ext0 hgNI
          have hgwI := grown_trans hgk hgNI
          clear hON hNi hOI hgN hgI hOk hgk hb0 hbc hb1 hbp
          go_wp2_with (first | (at_builtin; refine wp_app_ints rfl _ _ rfl wo.heap.size _ _ rfl hOl2 _ _ rfl _ hIi (by rw [invWord_len, List.length_replicate]; have := HX.out.2.2.1.2.2.1; omega) hgwI.size ?_; intro vL wL hOL hgL _; rw [← HX.out.1] at hOL; have hgwL : Ext wo wL := grown_own hgwI hgL (fun j hj hlt => by have := (hOl2.lt j hj).1; omega); have hYO : OwnIn (From wo.heap.size) wL vL (relPow P i) := OwnIn.of hOL (by have := HX.out.2.1; omega) (fun j h1 _ => h1); obtain ⟨aL, cL, hvL, _, _⟩ := hYO.ints.shape; subst hvL; clear hOL hOl2 hIi hgL hgwI) | (at_builtin; refine wp_app_row rfl _ _ rfl w0.heap.size wo wL _ _ R (relPow P i) rfl hO hgwL hYO rfl rfl (by have := hRl.out; omega) hg.size ?_; intro v5 w5 hO5 hg5 hg5b) | fail)
          have hgw5 : Ext w0 w5 := grown_own hg hg5 (fun j hj hlt => by have := (hO.lt j hj).1; omega)
          rw [← HX.out.2.2.2.1] at hO5
          clear hO hYO hg5 hg5b hgwL
          go_roundw
          case rel => exact ⟨i + 1, v5, rfl, by go_num, by omega, hgw5, hO5⟩
          case measure => simp [intOf]; omega
    · have hie : i = P.orders.length := by omega
      subst hie
      have hOT : RowsO w0.heap.size wr v4 (relTo P 0) := by rw [hR] at hO; exact hO
      clear hO hR
      go_wp2
      go_loopw [3, 8] (fun ov iv wr => ∃ (i : Nat) (v4 : Value), v4 = ov ∧ iv = .int .i64 i ∧ i ≤ P.orders.length ∧ Ext w0 wr ∧ RowsO w0.heap.size wr v4 (relTo P i)) (fun _ iv _ => P.orders.length - (intOf iv).toNat)
      case atStart => exact ⟨0, _, rfl, rfl, by omega, hg, hOT⟩
      case round =>
        clear hOT hg
        obtain ⟨i, v4, rfl, rfl, hi, hg, hO⟩ := hrel
        have hrl := relTo_len hP i hi
        by_cases hlt : i < P.orders.length
        · have hlt' : (i : Int) < P.orders.length := by omega
          have hic : (i : Int) < P.conj.length := by omega
          obtain ⟨bc, oc, a2, cap2, rfl, _, _, hcc0, hrc⟩ := Rows3.at hci i (by omega)
          have hcv := hP.cv i hlt
          have hO0 : RowsO w0.heap.size wr v4 (relTo P i ++ relCs P i 0) := by rw [relCs, List.append_nil]; exact hO
          have HCV := Lib.hid hcv; clear hcv hO
          go_wp2
          go_loopw [3, 9] (fun ov jv wr => ∃ (k : Nat) (v4 : Value), v4 = ov ∧ jv = .int .i64 ((i : Int) + 1 + k) ∧ k ≤ P.orders.length - 1 - i ∧ Ext w0 wr ∧ RowsO w0.heap.size wr v4 (relTo P i ++ relCs P i k)) (fun _ jv _ => P.orders.length - (intOf jv).toNat)
          case atStart => exact ⟨0, _, rfl, by go_num, by omega, hg, hO0⟩
          case round =>
            clear hO0 hg
            obtain ⟨k, v4, rfl, rfl, hk, hg, hO⟩ := hrel
            have hlen := HCV.out.1
            have hLL : (relTo P i ++ relCs P i k).length ≤ 100 := by rw [List.length_append, relCs_len]; omega
            obtain ⟨R, hR⟩ : ∃ R, R = relTo P i ++ relCs P i k := ⟨_, rfl⟩
            rw [← hR] at hO hLL
            by_cases hltk : i + 1 + k < P.orders.length
            · have hltk' : (i : Int) + 1 + k < P.orders.length := by omega
              have hkc : (k : Int) < (gt P.conj i).length := by omega
              obtain ⟨bk, ok, a3, cap3, rfl, _, _, hck0, hrk0⟩ := Rows2.at hrc k (by omega)
              have hgl : Ext wr (wr.alloc (.cells #[.int .i64 (-((i : Int) + 1)), .int .i64 ((i : Int) + k + 2), .int .i64 ((i : Int) + 1)] 2)) := World.grownBy_alloc _ _ _
              have hgwl := grown_trans hg hgl
              have hck := hgwl.cell hck0 (by simp)
              have hcc' := hgwl.cell hcc (by simp)
              have hcci := hgwl.cell hcc0 (by simp)
              have hvk := (HCV.out.2 k (by omega)).1
              have hvw := vec_word hP hvk
              have hrl2 := relCon_len hP (k := k) hlt (by omega)
              have hnx : relTo P i ++ relCs P i (k + 1) = R ++ [relCon P i k] := by rw [hR, relCs, List.append_assoc]
              have hvl : (gt (gt P.conj i) k).length ≤ 6 := by rw [hvk.1]; exact hn6
              have HX := Lib.hid (And.intro hvw (And.intro hrl2 (And.intro hnx (And.intro hLL hvl)))); clear hvw hrl2 hnx hvk hR hlen hLL hvl
              have hw1 : IntKind.i64.wrap ((i : Int) + 1) = (i : Int) + 1 := IntWalk.i64_in _ (by omega)
              have hw2 : IntKind.i64.wrap ((i : Int) + 1 + k + 1) = (i : Int) + k + 2 := by rw [show (i : Int) + 1 + k + 1 = (i : Int) + k + 2 by omega]; exact IntWalk.i64_in _ (by omega)
              have hw3 : IntKind.i64.wrap (-(i : Int)) = -(i : Int) := IntWalk.i64_in _ (by omega)
              have hw4 : IntKind.i64.wrap (-(i : Int) - 1) = -((i : Int) + 1) := by rw [show -(i : Int) - 1 = -((i : Int) + 1) by omega]; exact IntWalk.i64_in _ (by omega)
              have hw5 : IntKind.i64.wrap ((i : Int) + 1 + k - i) = (k : Int) + 1 := by rw [show (i : Int) + 1 + k - i = (k : Int) + 1 by omega]; exact IntWalk.i64_in _ (by omega)
              have hw6 : IntKind.i64.wrap ((k : Int) + 1 - 1) = (k : Int) := by rw [show (k : Int) + 1 - 1 = (k : Int) by omega]; exact IntWalk.i64_in _ (by omega)
              have hOl : Own wr.heap.size (wr.alloc (.cells #[.int .i64 (-((i : Int) + 1)), .int .i64 ((i : Int) + k + 2), .int .i64 ((i : Int) + 1)] 2)) (.slice (some ⟨wr.heap.size, 0, none⟩) 3 3) [-((i : Int) + 1), (i : Int) + k + 2, (i : Int) + 1] := World.ownsRow_lit wr #[.int .i64 (-((i : Int) + 1)), .int .i64 ((i : Int) + k + 2), .int .i64 ((i : Int) + 1)] 3 (Nat.le_refl _) (by decide) rfl
              go_wp2_with fail
              generalize hwl : wr.alloc (.cells #[.int .i64 (-((i : Int) + 1)), .int .i64 ((i : Int) + k + 2), .int .i64 ((i : Int) + 1)] 2) = wl at *
              clear hwl hw1 hw2 hw3 hw4 hw5 hw6 hck hck0 hcc' hcci
              refine Calls.mono (l07Word_ok wl _ (gt (gt P.conj i) k) Any (Ints.sub (Ints.ext hrk0 hgwl) (fun _ _ _ => trivial)) HX.out.2.2.2.2 HX.out.1.1) ?_
              rintro eN wN ⟨vN, rfl, hgN, hON⟩
              rw [HX.out.1.2.1] at hON
              have hNi := hON.ints (by have := HX.out.1.2.2.1; omega)
              go_wp2_with fail
              refine Calls.mono (l06Invert_ok wN _ (nWord (gt (gt P.conj i) k) P.orders.length) Any (Ints.sub hNi (fun _ _ _ => trivial)) (by have := HX.out.1.2.2.1; omega) HX.out.1.2.2.2) ?_
              rintro eI wI ⟨vI, rfl, hgI, hOI⟩
              have hIi := hOI.ints (by rw [invWord_len]; have := HX.out.1.2.2.1; omega)
              have hgNI := grown_trans hgN hgI
              have hOl2 := hOl.ext0 hgNI
              have hgwI := grown_trans hgl hgNI
              clear hON hNi hOI hgN hgI hOl hgl hgwl
              go_wp2_with (first | (at_builtin; refine wp_app_ints rfl _ _ rfl wr.heap.size _ _ rfl hOl2 _ _ rfl _ hIi (by rw [invWord_len]; have := HX.out.1.2.2.1; simp only [List.length_cons, List.length_nil]; omega) hgwI.size ?_; intro vL wL hOL hgL _; have hgwL : Ext wr wL := grown_own hgwI hgL (fun j hj hlt => by have := own_blk hj; omega); have hYO : OwnIn (From wr.heap.size) wL vL (relCon P i k) := OwnIn.of (l := relCon P i k) hOL (by have := HX.out.2.1; omega) (fun j h1 _ => h1); obtain ⟨aL, cL, hvL, _, _⟩ := hYO.ints.shape; subst hvL; clear hOL hOl2 hIi hgL hgwI) | (at_builtin; refine wp_app_row rfl _ _ rfl w0.heap.size wr wL _ _ R (relCon P i k) rfl hO hgwL hYO rfl rfl (by have := HX.out.2.2.2.1; omega) hg.size ?_; intro v5 w5 hO5 hg5 hg5b) | fail)
              have hgw5 : Ext w0 w5 := grown_own hg hg5 (fun j hj hlt => by have := (hO.lt j hj).1; omega)
              rw [← HX.out.2.2.1] at hO5
              clear hO hYO hg5 hg5b hgwL
              go_roundw
              case rel => exact ⟨k + 1, v5, rfl, by go_num, by omega, hgw5, hO5⟩
              case measure => simp [intOf]; omega
            · have hke : k = P.orders.length - 1 - i := by omega
              have hOn : RowsO w0.heap.size wr v4 (relTo P (i + 1)) := by rw [relTo, hlen, ← hke, ← hR]; exact hO
              have hgt : ¬ (i : Int) + 1 + k < P.orders.length := by omega
              clear hO hR hlen hLL
              go_wp2
              go_roundw
              case rel => exact ⟨i + 1, _, rfl, by go_num, by omega, hg, hOn⟩
              case measure => simp [intOf]; omega
        · have hie : i = P.orders.length := by omega
          subst hie
          have hfin : RowsO w.heap.size wr v4 (relsP P) := hO.weak (by have := HS.out; omega)
          clear hO
          go_wp2
          go_ret
          exact ⟨_, rfl, grown_trans hg0 hg, hfin⟩

end Go.Proofs.YtoakmefajbbggaaGreat
namespace Go.Proofs.YtoakmefajbbggaaGreat
open Go.RowKit

/-- a Boolean that says whether -/
def IsB (r : Value) (q : Prop) : Prop := ∃ b : Bool, r = .bool b ∧ (b = true ↔ q)
theorem IsB.yes {q : Prop} (h : q) : IsB (.bool true) q := ⟨true, rfl, fun _ => h, fun _ => rfl⟩
theorem IsB.no {q : Prop} (h : ¬ q) : IsB (.bool false) q := ⟨false, rfl, fun h2 => absurd h2 (by simp), fun h2 => absurd h2 h⟩

set_option maxRecDepth 100000 in
set_option maxHeartbeats 2000000 in
theorem positiveWord_ok (P : Pr) (_ : P.orders.length ≤ 1000) (w : World) (p v : Value) (W : List Int) (Sp S : Nat → Prop) (hp : PresP Sp w p P) (hv : Ints S w v W) (hl : W.length ≤ 1000000) :
    Calls Tryz.prog 54 #[p, v] w (Ret w fun _ r => IsB r (PosW P.orders.length W)) := by
  obtain ⟨pb, po, rfl⟩ := hp.shape
  obtain ⟨ao, capo, hco, hoi⟩ := hp.ordAt
  obtain ⟨av, cap, rfl, _, _⟩ := hv.shape
  obtain ⟨N, hN⟩ : ∃ N, N = W.length := ⟨_, rfl⟩
  obtain ⟨n, hn⟩ : ∃ n, n = P.orders.length := ⟨_, rfl⟩
  have hn8 : n ≤ 1000 := by omega
  rw [← hn] at hco ⊢
  rw [← hN] at hv hl ⊢
  have HV := Lib.hid (And.intro hv (And.intro hN hn)); clear hv hN hn hoi hp
  go_enter Tryz.func54, Tryz.ntmps54
  go_wp2
  go_loopw [9] (fun iv wr => ∃ k : Nat, iv = .int .i64 (k : Int) ∧ k ≤ N ∧ Hid (∀ j, j < k → 1 ≤ gt W j ∧ gt W j ≤ (n : Int)) ∧ w = wr) (fun iv _ => N - (intOf iv).toNat)
  case atStart => exact ⟨0, rfl, by omega, Lib.hid (fun j hj => by omega), rfl⟩
  case round =>
    obtain ⟨k, rfl, hk, hall, rfl⟩ := hrel
    by_cases hlt : k < N
    · have hlt' : (k : Int) < N := by omega
      obtain ⟨b, off, hav, _, _, hc⟩ := Ints.at HV.out.1 k (by rw [← HV.out.2.1]; exact hlt)
      subst hav
      obtain ⟨x, hx⟩ : ∃ x, x = gt W k := ⟨_, rfl⟩
      rw [← hx] at hc
      have HX := Lib.hid hx; clear hx
      go_wp2_with fail
      refine Calls.mono (inside_ok x 1 n w) ?_
      rintro _ _ ⟨rfl, rfl⟩
      cases hb : inB x 1 n with
      | true =>
        have hb2 := inB_true.1 hb
        have hnext : Hid (∀ j, j < k + 1 → 1 ≤ gt W j ∧ gt W j ≤ (n : Int)) := Lib.hid (fun j hj => by
          rcases Nat.lt_succ_iff_lt_or_eq.1 hj with h | h
          · exact hall.out j h
          · rw [h, ← HX.out]; exact hb2)
        clear hb hb2 hall
        go_wp2
        go_roundw
        case rel => exact ⟨k + 1, by go_num, by omega, hnext, by first | trivial | rfl⟩
        case measure => simp [intOf]; omega
      | false =>
        have hnot : ¬ PosW n W := fun h => by
          have h1 := h _ (gtMem (l := W) (i := k) (by rw [← HV.out.2.1]; exact hlt))
          rw [← HX.out, ← inB_true, hb] at h1
          cases h1
        have HN := Lib.hid hnot; clear hnot hb hall
        go_wp2
        go_ret
        exact ⟨_, rfl, Ext.refl _, IsB.no HN.out⟩
    · have hyes : PosW n W := fun l hl => by
        obtain ⟨j, hj, rfl⟩ := mem_gt hl
        exact hall.out j (by rw [← HV.out.2.1] at hj; omega)
      have HY := Lib.hid hyes; clear hyes hall
      have hnl : ¬ (k : Int) < (N : Int) := by omega
      go_wp2
      go_ret
      exact ⟨_, rfl, Ext.refl _, IsB.yes HY.out⟩

/-- v[l:h] at a list of integers -/
theorem run_midI (w : World) (a : Option Addr) (n cap : Nat) (l h : Int) (h0 : 0 ≤ l) (h1 : l ≤ h) (h2 : h ≤ cap) :
    (Instr.slice 24 (.slice a n cap) (some (.int .i64 l)) (some (.int .i64 h)) none).run Tryz.prog w = .ok (subSl (.slice a n cap) l.toNat h.toNat) w := by
  rw [run_slice_lh w 24 a n cap (by kernel_rfl) .i64 .i64 l h h0 h1 h2]
  have : (sizeOf (Tryz.prog.elem 24)).run Tryz.prog w = .ok 1 w := by kernel_rfl
  rw [this]
  simp [Result.andThen, sliced, subSl]
/-- what the walk needs of a letter: it stands for the generator a, of the order m -/
theorem PosW.letter {P : Pr} (hP : Valid P) {W : List Int} (h : PosW P.orders.length W) {t : Nat} (ht : t < W.length) : ∃ a m : Nat, gt W t = (a : Int) + 1 ∧ a < P.orders.length ∧ gt P.orders a = (m : Int) ∧ 2 ≤ m ∧ m ≤ 7 ∧ ordL P (gt W t) = m := by
  have h1 := h.at ht
  have ho := hP.ord7 (gt W t - 1).toNat (by omega)
  refine ⟨(gt W t - 1).toNat, (gt P.orders (gt W t - 1).toNat).toNat, by omega, by omega, by omega, by omega, by omega, rfl⟩

set_option maxRecDepth 100000 in
set_option maxHeartbeats 4000000 in
theorem reducible_ok (P : Pr) (hP : Valid P) (w : World) (p v : Value) (W : List Int) (t : Nat) (Sp S : Nat → Prop) (hp : PresP Sp w p P) (hv : Ints S w v W) (hW : PosW P.orders.length W) (ht : t < W.length) (hl : W.length ≤ 100000) :
    Calls Tryz.prog 188 #[p, v, .int .i64 (t : Int)] w (Ret w fun _ r => IsB r (RedB P W t)) := by
  obtain ⟨pb, po, rfl⟩ := hp.shape
  obtain ⟨av, cap, rfl, hcap, _⟩ := hv.shape
  obtain ⟨a, m, hx, han, hm, hm2, hm7, hom⟩ := hW.letter hP ht
  obtain ⟨N, hN⟩ : ∃ N, N = W.length := ⟨_, rfl⟩
  have hv0 := hv
  rw [← hN] at hv hl hcap ht ⊢
  have hred : RedB P W t ↔ (t + 1 < N ∧ gt W (t + 1) < gt W t) ∨ (t + m ≤ N ∧ ∀ s, t ≤ s → s < t + m → gt W s = gt W t) := by unfold RedB; rw [← hN, hom]
  have HV := Lib.hid (And.intro hv (And.intro hN (And.intro hred (And.intro hx (And.intro hm (And.intro han hp)))))); clear hv hv0 hN hred hx hm han hp hW hom
  have ht' : (t : Int) < N := by omega
  go_enter Tryz.func188, Tryz.ntmps188
  go_upto_region 1 with fail
  go_cut [26] (fun b wx => ∃ r : Bool, b = .bool r ∧ Hid (r = true ↔ (t + 1 < N ∧ gt W (t + 1) < gt W t)) ∧ Ext w wx)
  case' rest =>
    obtain ⟨r, rfl, hr, hg⟩ := hcut
    cases r with
    | true =>
      have hyes := HV.out.2.2.1.2 (.inl (hr.out.1 rfl))
      have HY := Lib.hid hyes; clear hyes hr
      go_wp2
      go_ret
      exact ⟨_, rfl, hg, IsB.yes HY.out⟩
    | false =>
      have hno : ¬ (t + 1 < N ∧ gt W (t + 1) < gt W t) := fun h => by have := hr.out.2 h; cases this
      have HNO := Lib.hid hno; clear hno hr
      obtain ⟨ao, capo, hco, hoi⟩ := (HV.out.2.2.2.2.2.2.ext hg).ordAt
      obtain ⟨ob, oo, hoe, _, _, hcm⟩ := Ints.at hoi a HV.out.2.2.2.2.2.1
      subst hoe
      rw [HV.out.2.2.2.2.1] at hcm
      obtain ⟨vb, vo, hve, _, _, hct⟩ := Ints.at (Ints.ext HV.out.1 hg) t (by rw [← HV.out.2.1]; exact ht)
      subst hve
      rw [HV.out.2.2.2.1] at hct
      obtain ⟨n, hn⟩ : ∃ n, n = P.orders.length := ⟨_, rfl⟩
      rw [← hn] at hco
      have han : (a : Int) < n := by have := HV.out.2.2.2.2.2.1; omega
      have hn6 : n ≤ 6 := by rw [hn]; exact hP.n6
      have HN := Lib.hid hn; clear hn hoi
      have hxa : (a : Int) + 1 - 1 = (a : Int) := by omega
      go_wp2
      go_quiet (fail)
      rename_i nq _
      obtain ⟨wq, hwq⟩ : ∃ wq, wq = wc.drewN nq := ⟨_, rfl⟩
      have hgq : Ext wc wq := by rw [hwq]; exact grown_drewN _ _ _
      rw [← hwq]
      clear hwq
      have hctq := hgq.cell hct (by simp)
      clear hco hcm hct hxa
      have hgw := grown_trans hg hgq
      by_cases hfit : t + m ≤ N
      · have hnf : ¬ (N : Int) < (t : Int) + (m : Int) := by omega
        have hmid : ∀ w', (Instr.slice 24 (.slice (some ⟨vb, vo, none⟩) N cap) (some (.int .i64 (t : Int))) (some (.int .i64 ((t : Int) + (m : Int)))) none).run Tryz.prog w' = .ok (subSl (.slice (some ⟨vb, vo, none⟩) N cap) t (t + m)) w' := fun w' => by
          have h := run_midI w' (some ⟨vb, vo, none⟩) N cap (t : Int) ((t : Int) + (m : Int)) (by omega) (by omega) (by omega)
          rw [Int.toNat_natCast, show ((t : Int) + (m : Int)).toNat = t + m by omega] at h; exact h
        have hsub := subSl_ints (Ints.ext HV.out.1 hgw) t (t + m) (by omega) (by rw [← HV.out.2.1]; exact hfit)
        obtain ⟨sa, sc, hsv, _, _⟩ := hsub.shape
        have hsl : ((W.take (t + m)).drop t).length = m := by rw [List.length_drop, List.length_take, ← HV.out.2.1]; omega
        rw [hsl] at hsv
        rw [hsv] at hsub
        have hsg : ∀ j, j < m → gt ((W.take (t + m)).drop t) j = gt W (t + j) := fun j hj => by
          simp only [gt, List.getD_eq_getElem?_getD, List.getElem?_drop, List.getElem?_take]; rw [if_pos (by omega)]
        have HS := Lib.hid (And.intro hsub (And.intro hsl (And.intro hsg hsv))); clear hsub hsl hsg
        rw [hsv] at hmid
        clear hsv
        go_wp2
        clear hmid
        go_loopw [51] (fun iv wr => ∃ k : Nat, iv = .int .i64 (k : Int) ∧ k ≤ m ∧ Hid (∀ j, j < k → gt W (t + j) = gt W t) ∧ wq = wr) (fun iv _ => m - (intOf iv).toNat)
        case atStart => exact ⟨0, rfl, by omega, Lib.hid (fun j hj => by omega), rfl⟩
        case round =>
          obtain ⟨k, rfl, hk, hall, rfl⟩ := hrel
          by_cases hkl : k < m
          · have hkl' : (k : Int) < m := by omega
            obtain ⟨sb, so, hse, _, _, hcs⟩ := Ints.at HS.out.1 k (by rw [HS.out.2.1]; exact hkl)
            subst hse
            rw [HS.out.2.2.1 k hkl] at hcs
            obtain ⟨y, hy⟩ : ∃ y, y = gt W (t + k) := ⟨_, rfl⟩
            rw [← hy] at hcs
            have HY := Lib.hid hy; clear hy
            by_cases hyx : y = (a : Int) + 1
            · subst hyx
              have hnext : Hid (∀ j, j < k + 1 → gt W (t + j) = gt W t) := Lib.hid (fun j hj => by
                rcases Nat.lt_succ_iff_lt_or_eq.1 hj with h | h
                · exact hall.out j h
                · rw [h, ← HY.out, HV.out.2.2.2.1])
              clear hall
              go_wp2
              go_roundw
              case rel => exact ⟨k + 1, by go_num, by omega, hnext, by first | trivial | rfl⟩
              case measure => simp [intOf]; omega
            · have hnb : (y != (a : Int) + 1) = true := by simpa using hyx
              have hnot : ¬ RedB P W t := fun h => by
                rcases HV.out.2.2.1.1 h with h | h
                · exact HNO.out h
                · exact hyx (by rw [HY.out, h.2 (t + k) (by omega) (by omega), HV.out.2.2.2.1])
              have HR := Lib.hid hnot; clear hnot hyx hall
              go_wp2
              go_ret
              exact ⟨_, rfl, hgw, IsB.no HR.out⟩
          · have hkm : k = m := by omega
            have hyes : RedB P W t := HV.out.2.2.1.2 (.inr ⟨hfit, fun s h1 h2 => by
              have := hall.out (s - t) (by omega)
              rwa [show t + (s - t) = s by omega] at this⟩)
            have HY := Lib.hid hyes; clear hyes hall
            have hnl : ¬ (k : Int) < (m : Int) := by omega
            go_wp2
            go_ret
            exact ⟨_, rfl, hgw, IsB.yes HY.out⟩
      · have hf : (N : Int) < (t : Int) + (m : Int) := by omega
        have hnot : ¬ RedB P W t := fun h => by
          rcases HV.out.2.2.1.1 h with h | h
          · exact HNO.out h
          · exact hfit h.1
        have HR := Lib.hid hnot; clear hnot hfit
        go_wp2
        go_ret
        exact ⟨_, rfl, hgw, IsB.no HR.out⟩
  by_cases h1 : t + 1 < N
  · have h1' : (t : Int) + 1 < N := by omega
    obtain ⟨vb, vo, hve, _, _, hct⟩ := Ints.at HV.out.1 t (by rw [← HV.out.2.1]; exact ht)
    subst hve
    obtain ⟨vb', vo', hve, _, _, hcy⟩ := Ints.at HV.out.1 (t + 1) (by rw [← HV.out.2.1]; exact h1)
    obtain ⟨rfl, rfl⟩ : vb = vb' ∧ vo = vo' := by cases hve; exact ⟨rfl, rfl⟩
    clear hve
    obtain ⟨x, hx⟩ : ∃ x, x = gt W t := ⟨_, rfl⟩
    obtain ⟨y, hy⟩ : ∃ y, y = gt W (t + 1) := ⟨_, rfl⟩
    rw [← hx] at hct
    rw [← hy] at hcy
    have hiff : decide (y < x) = true ↔ (t + 1 < N ∧ gt W (t + 1) < gt W t) := by rw [decide_eq_true_eq, hx, hy]; exact ⟨fun h => ⟨h1, h⟩, fun h => h.2⟩
    have HI := Lib.hid hiff; clear hiff hx hy
    go_wp2
    go_quiet (fail)
    go_wp2
    go_meet
    exact ⟨_, rfl, Lib.hid HI.out, grown_drewN _ _ _⟩
  · have h1' : ¬ (t : Int) + 1 < N := by omega
    have hw1 : IntKind.i64.wrap ((t : Int) + 1) = (t : Int) + 1 := IntWalk.i64_in _ (by omega)
    have hd1 : decide ((t : Int) + 1 < N) = false := decide_eq_false h1'
    go_wp2
    go_quiet (fail)
    go_wp2
    go_meet
    exact ⟨false, rfl, Lib.hid ⟨fun h => (by cases h), fun h => absurd h.1 h1⟩, grown_drewN _ _ _⟩

set_option maxRecDepth 100000 in
set_option maxHeartbeats 4000000 in
theorem reducibleAt_ok (P : Pr) (hP : Valid P) (w : World) (p v : Value) (W : List Int) (Sp S : Nat → Prop) (hp : PresP Sp w p P) (hv : Ints S w v W) (hW : PosW P.orders.length W) (hl : W.length ≤ 100000) :
    Calls Tryz.prog 115 #[p, v] w (Ret w fun _ r => ∃ x : Int, r = .int .i64 x ∧ FirstR P W x) := by
  obtain ⟨pb, po, rfl⟩ := hp.shape
  obtain ⟨av, cap, rfl, _, _⟩ := hv.shape
  have hred := fun w' (hg : Ext w w') t (ht : t < W.length) => reducible_ok P hP w' _ _ W t Sp S (hp.ext hg) (Ints.ext hv hg) hW ht hl
  obtain ⟨N, hN⟩ : ∃ N, N = W.length := ⟨_, rfl⟩
  rw [← hN] at hred hl ⊢
  have HV := Lib.hid (And.intro hred hN); clear hred hN hv hp hW
  go_enter Tryz.func115, Tryz.ntmps115
  go_wp2
  go_loopw [8] (fun iv wr => ∃ k : Nat, iv = .int .i64 (k : Int) ∧ k ≤ N ∧ Hid (∀ j, j < k → ¬ RedB P W j) ∧ Ext w wr) (fun iv _ => N - (intOf iv).toNat)
  case atStart => exact ⟨0, rfl, by omega, Lib.hid (fun j hj => by omega), Ext.refl _⟩
  case round =>
    obtain ⟨k, rfl, hk, hall, hg⟩ := hrel
    by_cases hlt : k < N
    · have hlt' : (k : Int) < N := by omega
      go_wp2_with fail
      refine Calls.mono (HV.out.1 wr hg k hlt) ?_
      rintro e1 w1 ⟨v1, rfl, hg1, b, rfl, hb⟩
      cases b with
      | true =>
        have hf : FirstR P W (k : Int) := .inr ⟨k, rfl, by rw [← HV.out.2]; exact hlt, hb.1 rfl, hall.out⟩
        have HF := Lib.hid hf; clear hf hb hall
        go_wp2
        go_ret
        exact ⟨_, rfl, grown_trans hg hg1, _, rfl, HF.out⟩
      | false =>
        have hnot : ¬ RedB P W k := fun h => by have := hb.2 h; cases this
        have hnext : Hid (∀ j, j < k + 1 → ¬ RedB P W j) := Lib.hid (fun j hj => by
          rcases Nat.lt_succ_iff_lt_or_eq.1 hj with h | h
          · exact hall.out j h
          · rw [h]; exact hnot)
        clear hnot hb hall
        go_wp2
        go_roundw
        case rel => exact ⟨k + 1, by go_num, by omega, hnext, grown_trans hg hg1⟩
        case measure => simp [intOf]; omega
    · have hf : FirstR P W (-1) := .inl ⟨rfl, fun j hj => hall.out j (by rw [← HV.out.2] at hj; omega)⟩
      have HF := Lib.hid hf; clear hf hall
      have hnl : ¬ (k : Int) < (N : Int) := by omega
      go_wp2
      go_ret
      exact ⟨_, rfl, hg, _, rfl, HF.out⟩

end Go.Proofs.YtoakmefajbbggaaGreat
namespace Go.Proofs.YtoakmefajbbggaaGreat

theorem freeze_drawn (w : World) (a : Addr) (n : Nat) : (w.freeze a n).drawn = w.drawn := by
  unfold World.freeze; split <;> rfl

theorem ask_drawn {α : Type} (q : Ask α) : ∀ w : World, w.drawn ≤ (w.ask q).2.drawn := by
  induction q with
  | done a => intro w; exact Nat.le_refl _
  | ask what range k ih =>
    intro w
    unfold World.ask
    dsimp only
    split
    · exact ih _ _
    · exact Nat.le_trans (Nat.le_succ _) (ih _ { w with drawn := w.drawn + 1 })

theorem sys_drawn (w : World) (c : Sys) : w.drawn ≤ (w.sys c).2.drawn := by
  unfold World.sys
  have h := ask_drawn (Kernel.perform c w.os) w
  revert h
  generalize w.ask (Kernel.perform c w.os) = r
  intro h
  split
  · exact Nat.le_refl _
  · exact h

theorem viewStore_drawn (p : Program) (w : World) (at_ : Addr) (u : TypeId) (k : Addr) (v : Value) (atomic : Bool) (r : World × List Addr) (h : w.viewStore p at_ u k v atomic = .ok r) : r.1.drawn = w.drawn := by
  unfold World.viewStore at h
  simp only [bind, Except.bind, pure, Except.pure] at h
  repeat' split at h
  all_goals first | (cases h; done) | (cases h; rfl)

theorem farStore_drawn (p : Program) (w : World) (a : Addr) (v : Value) (atomic : Bool) (r : World × List Addr) (h : w.farStore p a v atomic = .ok r) : r.1.drawn = w.drawn := by
  unfold World.farStore at h
  split at h
  · split at h
    · rename_i hv
      cases h
      exact viewStore_drawn _ _ _ _ _ _ _ _ hv
    · cases h
  · cases h

theorem run_drawn {α : Type} (p : Program) (s : Sem α) : ∀ (w w' : World) (a : α), s.run p w = .ok a w' → w.drawn ≤ w'.drawn := by
  induction s with
  | pure a => intro w w' b h; cases h; exact Nat.le_refl _
  | load m a k ih =>
    intro w w' b h
    unfold Sem.run at h
    split at h
    · exact ih _ _ _ _ h
    · split at h
      · exact ih _ _ _ _ h
      · cases h
  | store m a v k ih =>
    intro w w' b h
    cases v <;> simp only [Sem.run] at h
    all_goals try (cases h; done)
    all_goals
      split at h
      · split at h
        · cases h
        · exact ih (w.setCell a _) _ _ h
      · split at h
        · rename_i w1 l hf
          have h1 := farStore_drawn _ _ _ _ _ _ hf
          have h2 := ih _ _ _ h
          dsimp only at h1
          omega
        · cases h
  | new o k ih => intro w w' b h; exact ih _ { w with heap := w.heap.push o } _ _ h
  | shape r k ih => intro w w' b h; exact ih _ _ _ _ h
  | freeze a n k ih => intro w w' b h; have := ih _ _ _ h; rw [freeze_drawn] at this; exact this
  | frozen a k ih => intro w w' b h; exact ih _ _ _ _ h
  | getObj r k ih =>
    intro w w' b h
    unfold Sem.run at h
    split at h
    · cases h
    · exact ih _ _ _ _ h
    · cases h
  | setObj r o k ih =>
    intro w w' b h
    unfold Sem.run at h
    split at h
    · cases h
    · exact ih { w with heap := w.heap.setIfInBounds r o } _ _ h
    · cases h
  | choose q k ih =>
    intro w w' b h
    unfold Sem.run at h
    split at h
    · exact ih _ _ _ _ h
    · exact Nat.le_trans (Nat.le_succ _) (ih _ _ _ _ h)
  | sys c k ih => intro w w' b h; exact Nat.le_trans (sys_drawn w c) (ih _ _ _ _ h)
  | program k ih => intro w w' b h; exact ih _ _ _ _ h
  | mark m k ih => intro w w' b h; exact ih _ _ _ h
  | halt hh => intro w w' b h; cases h

/-- an operation that hands back a value: its run never lets the count of draws fall -/
theorem wpList_drawn {P : Program} {ops : Array Oper} {rest : List Oper} {o : Oper} {a : Act} {Q : Exit → Act → World → Prop} {w : World} {Φ : Act → World → Prop} (hgd : o.guard = none)
    (hnc : ∀ f args w', (execOp a.eval o).run P w ≠ .ok (.enter f args) w') (hnr : ∀ r args w', (execOp a.eval o).run P w ≠ .ok (.row r args) w')
    (h : wpList P ops (fun e a' w' => e = .normal ∧ Φ a' w') [o] a w) (k : ∀ a' w', Φ a' w' → w.drawn ≤ w'.drawn → wpList P ops Q rest a' w') :
    wpList P ops Q (o :: rest) a w := by
  have hw : Region.wanted o (yielded ops a.tmps) = true := by simp [Region.wanted, hgd]
  unfold wpList at h ⊢
  rw [if_pos hw] at h ⊢
  rcases h with h | ⟨_, ⟨_, _, he, _⟩⟩
  · left
    unfold Oper.wp at h ⊢
    cases hr : (execOp a.eval o).run P w with
    | ok n w' =>
      have hd := run_drawn _ _ _ _ _ hr
      rw [hr] at h
      cases n with
      | value v => exact k _ _ h.2 hd
      | skip => exact k _ _ h.2 hd
      | defer d => exact k _ _ h.2 hd
      | enter f args => exact absurd hr (hnc _ _ _)
      | row r args => exact absurd hr (hnr _ _ _)
      | _ => exact h.elim
    | halt hh w' =>
      rw [hr] at h
      cases hh with
      | panic v => cases h.1
      | _ => exact h.elim
  · cases he

theorem run_value_only (P : Program) (s : Sem Value) (w w' : World) (n : Next) (h : Sem.run P (do pure (Next.value (← s))) w = .ok n w') : ∃ v, n = .value v := by
  rw [Sem.run_bind] at h
  cases hs : Sem.run P s w with
  | ok v w1 => rw [hs] at h; cases h; exact ⟨v, rfl⟩
  | halt hh w1 => rw [hs] at h; cases h

theorem append_value {P : Program} {o : Oper} {a : Act} {w w' : World} {n : Next} {args : Array Operand} {tys : Array TypeId} (ho : o.op = Op.call { callee := Callee.builtin Builtin.append, args := args, argTypes := tys })
    (h : (execOp a.eval o).run P w = .ok n w') : ∃ v, n = .value v := by
  unfold execOp at h
  rw [ho] at h
  exact run_value_only P (Builtin.append_ tys o.type (args.map a.eval)) w w' n h

/-- the builtin append does not let the count of draws fall -/
theorem append_drawn {P : Program} {ops : Array Oper} {rest : List Oper} {o : Oper} {a : Act} {Q : Exit → Act → World → Prop} {w : World} {Φ : Act → World → Prop} (hgd : o.guard = none) {args : Array Operand} {tys : Array TypeId}
    (ho : o.op = Op.call { callee := Callee.builtin Builtin.append, args := args, argTypes := tys })
    (h : wpList P ops (fun e a' w' => e = .normal ∧ Φ a' w') [o] a w) (k : ∀ a' w', Φ a' w' → w.drawn ≤ w'.drawn → wpList P ops Q rest a' w') :
    wpList P ops Q (o :: rest) a w :=
  wpList_drawn hgd (fun f x w' hr => by obtain ⟨v, hv⟩ := append_value ho hr; cases hv) (fun f x w' hr => by obtain ⟨v, hv⟩ := append_value ho hr; cases hv) h k

end Go.Proofs.YtoakmefajbbggaaGreat
namespace Go.Proofs.YtoakmefajbbggaaGreat
open Go.Proofs Go.Shelf Go.RowKit
section
open Go.Lib
def Tryz.growInts_ren : Go.Shelf.Ren := ⟨fun | 4 => 234 | n => n, fun | 22 => 24 | 25 => 2 | 3 => 3 | 4 => 4 | 9 => 9 | 20 => 20 | 0 => 0 | n => n, fun | n => n⟩
theorem Tryz.growInts : Go.Proofs.Lays8.n4 Tryz.prog Tryz.growInts_ren := {
  mixed := by kernel_rfl
  f4 := ⟨Tryz.f234.name, by decide, Tryz.func234.trans (congrArg some (by kernel_rfl))⟩
  t0 := Tryz.underlying0
  a0 := Tryz.isAgg0
  z0 := Tryz.sizeOf0
  v0 := Tryz.zeroValue0
  t3 := Tryz.underlying3
  a3 := Tryz.isAgg3
  z3 := Tryz.sizeOf3
  v3 := Tryz.zeroValue3
  t4 := Tryz.underlying4
  a4 := Tryz.isAgg4
  z4 := Tryz.sizeOf4
  v4 := Tryz.zeroValue4
  t9 := Tryz.underlying9
  a9 := Tryz.isAgg9
  z9 := Tryz.sizeOf9
  v9 := Tryz.zeroValue9
  t20 := Tryz.underlying20
  a20 := Tryz.isAgg20
  z20 := Tryz.sizeOf20
  v20 := Tryz.zeroValue20
  t22 := Tryz.underlying24
  a22 := Tryz.isAgg24
  z22 := Tryz.sizeOf24
  v22 := Tryz.zeroValue24 }

theorem growInts_ok (n : Nat) (hn : n ≤ 1000000) (w : World) : Calls Tryz.prog 234 #[.slice none 0 0, .int .i64 n] w (Ret w fun w' v => Own w.heap.size w' v [] ∧ w.drawn ≤ w'.drawn) := by
  rcases Nat.eq_zero_or_pos n with rfl | h0
  · have h := Any8.slices_Grow_room Tryz.growInts none 0 0 0 w (by omega) (by omega) (by omega) (by omega)
    change Calls Tryz.prog 234 _ _ _ at h
    refine h.mono ?_
    rintro e w' ⟨rfl, rfl⟩
    exact ⟨_, rfl, Ext.refl _, Own.of (World.ownsRow_nil _ _ _ _), Nat.le_refl _⟩
  · obtain ⟨i0, hi, hz0, hz1, hz2⟩ := info_parts Tryz.infoInt
    have hmax : 0 + n ≤ maxLen := by unfold maxLen; omega
    have h := Any8.slices_Grow_grow Tryz.growInts i0 (.int .i64 0) hi hz0 (by rw [hz1]; decide) none 0 0 n [] w (by omega) (by omega) (by rw [hz2]; omega) (by omega) (by simp) (fun _ => rfl) (fun a ha => by cases ha)
    change Calls Tryz.prog 234 _ _ _ at h
    refine h.mono ?_
    rintro e w' ⟨rfl, rfl⟩
    have hge := grownCap_ge w (0 + n) 0 2
    have hle := grownCap_le_maxLen w (0 + n) 0 2 hmax
    refine ⟨_, rfl, grown_trans (grown_drew w none) (World.grownBy_alloc _ _ _), Own.of ⟨rfl, .inr ⟨w.heap.size, _, _, rfl, Nat.le_refl _, Array.getElem?_push_size (xs := w.heap), Nat.zero_le _, hle, ?_, by simp⟩⟩, by first | exact Nat.le_refl _ | exact Nat.le_succ _⟩
    simp only [Array.size_append, size_zeroCells, List.size_toArray, List.length_nil]
    have e1 : (Value.cells (.int .i64 0)).size = 1 := rfl
    have hge2 : 0 + n ≤ grownCap w (0 + n) 0 2 := hge
    rw [e1]
    show 0 + (0 + n - 0) * 1 + (grownCap w (0 + n) 0 2 - (0 + n)) * 1 = grownCap w (0 + n) 0 2 * 1
    omega

end
theorem wp_app_intsD {ops : Array Oper} {rest : List Oper} {o : Oper} {a : Act} {Q : Exit → Act → World → Prop} {w : World} (hgd : o.guard = none) (s x : Operand)
    (ho : o.op = Op.call { callee := Callee.builtin Builtin.append, args := #[s, x], argTypes := #[24, 24] }) (base : Nat) (v : Value) (l : List Int) (hs : a.eval s = v) (hown : Own base w v l)
    (u : Value) (m : List Int) (hx : a.eval x = u) (S : Nat → Prop) (hu : Ints S w u m) (hlen : l.length + m.length ≤ 2147483648) (hbase : base ≤ w.heap.size)
    (h : ∀ v' w', Own base w' v' (l ++ m) → w.grownBy w' v.ownBlock → w.drawn ≤ w'.drawn → wpList Tryz.prog ops Q rest (a.put o.dst v') w') :
    wpList Tryz.prog ops Q (o :: rest) a w := by
  refine append_drawn (Φ := fun a' w' => ∃ v', Own base w' v' (l ++ m) ∧ w.grownBy w' v.ownBlock ∧ a' = a.put o.dst v') hgd ho ?_ ?_
  · exact wp_app_ints hgd s x ho base v l hs hown u m hx S hu hlen hbase (fun v' w' k1 k2 _ => ⟨rfl, v', k1, k2, rfl⟩)
  · rintro a' w' ⟨v', k1, k2, rfl⟩ hd
    exact h v' w' k1 k2 hd

/-- the numbers of the first k rows -/
def rowsTo (us : List (List Int)) : Nat → List Int
  | 0 => []
  | k + 1 => rowsTo us k ++ gt us k

theorem rowsTo_len (us : List (List Int)) (b : Nat) (h : ∀ u ∈ us, u.length ≤ b) (k : Nat) (hk : k ≤ us.length) : (rowsTo us k).length ≤ b * k := by
  induction k with
  | zero => simp [rowsTo]
  | succ k ih =>
    have h1 := ih (by omega)
    have h2 := h _ (gt_mem (l := us) (i := k) (by omega))
    simp only [rowsTo, List.length_append, Nat.mul_succ]; omega

theorem rowsTo_take (us : List (List Int)) (k : Nat) (hk : k ≤ us.length) : rowsTo us k = (us.take k).flatten := by
  induction k with
  | zero => simp [rowsTo]
  | succ k ih =>
    have hlt : k < us.length := by omega
    rw [rowsTo, ih (by omega), List.take_succ_eq_append_getElem hlt, List.flatten_append]
    simp [gt, hlt]

theorem rowsTo_all (us : List (List Int)) : rowsTo us us.length = us.flatten := by
  rw [rowsTo_take us _ (Nat.le_refl _), List.take_length]

set_option maxRecDepth 100000 in
set_option maxHeartbeats 4000000 in
theorem concatInts_ok (w : World) (lv : Value) (us : List (List Int)) (Sr : Nat → Prop) (hl : Rows2 Sr w lv us) (hb : ∀ u ∈ us, u.length ≤ 1000) (hn : us.length ≤ 100) :
    Calls Tryz.prog 189 #[lv] w (Ret w fun w' v => Own w.heap.size w' v us.flatten ∧ w.drawn ≤ w'.drawn) := by
  obtain ⟨al, capl, rfl, _, _⟩ := Sl.shape hl
  have hfl : ∀ k, k ≤ us.length → (rowsTo us k).length ≤ 100000 := fun k hk => by have := rowsTo_len us 1000 hb k hk; omega
  have HF := Lib.hid (And.intro hfl hb); clear hfl hb
  rw [← rowsTo_all]
  go_enter Tryz.func189, Tryz.ntmps189
  go_wp2
  go_loopw [3, 11] (fun sv iv wr => ∃ k : Nat, sv = .int .i64 ((rowsTo us k).length : Nat) ∧ iv = .int .i64 k ∧ k ≤ us.length ∧ w = wr) (fun _ iv _ => us.length - (intOf iv).toNat)
  case atStart => exact ⟨0, rfl, rfl, by omega, rfl⟩
  case round =>
    obtain ⟨k, rfl, rfl, hk, rfl⟩ := hrel
    have hfk := HF.out.1 k hk
    by_cases hlt : k < us.length
    · have hlt' : (k : Int) < us.length := by omega
      obtain ⟨b, off, a2, cap2, rfl, _, _, hc, hr⟩ := Rows2.at hl k hlt
      have hfk2 := HF.out.1 (k + 1) hlt
      have hst : (rowsTo us (k + 1)).length = (rowsTo us k).length + (gt us k).length := by simp only [rowsTo, List.length_append]
      obtain ⟨m, hm⟩ : ∃ m, m = (rowsTo us k).length := ⟨_, rfl⟩
      obtain ⟨m2, hm2⟩ : ∃ m2, m2 = (gt us k).length := ⟨_, rfl⟩
      rw [← hm] at hfk hst ⊢
      rw [← hm2] at hc hr hst
      have hmm : m + m2 ≤ 100000 := by omega
      have hw : IntKind.i64.wrap ((m : Int) + (m2 : Int)) = ((m + m2 : Nat) : Int) := by rw [IntWalk.i64_in _ (by omega)]; omega
      have hnn : ¬ ((m + m2 : Nat) : Int) < 0 := by omega
      have HS := Lib.hid (And.intro hst (And.intro hm hm2)); clear hst hm hm2 hfk2
      go_wp2
      go_roundw
      case rel => exact ⟨k + 1, by rw [HS.out.1, Int.natCast_add], by go_num, by omega, trivial⟩
      case measure => simp [intOf]; omega
    · have hke : k = us.length := by omega
      subst hke
      obtain ⟨m, hm⟩ : ∃ m, m = (rowsTo us us.length).length := ⟨_, rfl⟩
      rw [← hm] at hfk ⊢
      clear hm
      go_wp2_with fail
      refine Calls.mono (growInts_ok m (by omega) w) ?_
      rintro e1 w1 ⟨v1, rfl, hg1, hO1, hd1⟩
      go_wp2
      go_loopw [6, 27] (fun ov iv wr => ∃ (k : Nat) (v4 : Value), v4 = ov ∧ iv = .int .i64 k ∧ k ≤ us.length ∧ Ext w wr ∧ Own w.heap.size wr v4 (rowsTo us k) ∧ w.drawn ≤ wr.drawn) (fun _ iv _ => us.length - (intOf iv).toNat)
      case atStart => exact ⟨0, v1, rfl, rfl, by omega, hg1, hO1, hd1⟩
      case round =>
        clear hO1
        obtain ⟨k, v4, rfl, rfl, hk, hg, hO, hdr⟩ := hrel
        by_cases hlt : k < us.length
        · have hlt' : (k : Int) < us.length := by omega
          obtain ⟨b, off, a2, cap2, rfl, _, _, hc, hr⟩ := Rows2.at hl k hlt
          have hcr := hg.cell hc (by simp)
          have hr2 := Ints.ext hr hg
          have hlk := HF.out.2 _ (gt_mem hlt)
          have hfk := HF.out.1 k hk
          have hlen : (rowsTo us k).length + (gt us k).length ≤ 2147483648 := by omega
          have HN := Lib.hid (And.intro hr2 hlen); clear hlen hr2 hlk hfk hc
          go_wp2_with (first | (at_builtin; refine wp_app_intsD rfl _ _ rfl w.heap.size _ (rowsTo us k) rfl hO _ (gt us k) rfl _ HN.out.1 HN.out.2 hg.size ?_; intro v5 w5 hO5 hg5 hd5; have hgw5 := grown_own hg hg5 (fun j hj hlt => by have := (hO.lt j hj).1; omega)) | fail)
          clear hcr
          go_roundw
          case rel => exact ⟨k + 1, v5, rfl, by go_num, by omega, hgw5, hO5, Nat.le_trans hdr hd5⟩
          case measure => simp [intOf]; omega
        · have hke : k = us.length := by omega
          subst hke
          obtain ⟨az, capz, nz, hvz⟩ : ∃ az capz nz, v4 = .slice az nz capz := by
            rcases hO.2 with ⟨h1, _⟩ | ⟨g, cp, _, h1, _⟩
            · exact ⟨_, _, _, h1⟩
            · exact ⟨_, _, _, h1⟩
          subst hvz
          go_wp2
          go_ret
          exact ⟨_, rfl, hg, hO, hdr⟩

end Go.Proofs.YtoakmefajbbggaaGreat
namespace Go.Proofs.YtoakmefajbbggaaGreat
open Go.RowKit

theorem rowsL {w : World} {us : List (List Int)} {vs : List Value} (hb : us.length ≤ 1000) (hl : vs.length = us.length) (hn : 0 < vs.length) (h : ∀ i, i < us.length → ∃ S, Ints S w (gt vs i) (gt us i)) : Rows2 Any (w.alloc (.cells vs.toArray 24)) (.slice (some ⟨w.heap.size, 0, none⟩) us.length us.length) us := by
  have hg : Ext w (w.alloc (.cells vs.toArray 24)) := World.grownBy_alloc _ _ _
  refine ⟨_, us.length, rfl, ⟨Nat.le_refl _, by omega, fun h => by cases h⟩, fun i hi => ?_⟩
  obtain ⟨S, hS⟩ := h i hi
  refine ⟨w.heap.size, 0, gt vs i, rfl, trivial, by simp, ?_, Ints.sub (Ints.ext hS hg) (fun _ _ _ => trivial)⟩
  rw [World.cell?_alloc_at _ _ _ _ rfl]
  simp [gt, hl, hi]
theorem rows3L {w : World} {v1 v2 v3 : Value} {l1 l2 l3 : List Int} {S1 S2 S3 : Nat → Prop} (h1 : Ints S1 w v1 l1) (h2 : Ints S2 w v2 l2) (h3 : Ints S3 w v3 l3) : Rows2 Any (w.alloc (.cells #[v1, v2, v3] 24)) (.slice (some ⟨w.heap.size, 0, none⟩) 3 3) [l1, l2, l3] :=
  rowsL (vs := [v1, v2, v3]) (us := [l1, l2, l3]) (by simp) rfl (by simp) (fun i hi => by
    have : i = 0 ∨ i = 1 ∨ i = 2 := by simp at hi; omega
    rcases this with rfl | rfl | rfl
    · exact ⟨_, h1⟩
    · exact ⟨_, h2⟩
    · exact ⟨_, h3⟩)
theorem rows4L {w : World} {v1 v2 v3 v4 : Value} {l1 l2 l3 l4 : List Int} {S1 S2 S3 S4 : Nat → Prop} (h1 : Ints S1 w v1 l1) (h2 : Ints S2 w v2 l2) (h3 : Ints S3 w v3 l3) (h4 : Ints S4 w v4 l4) : Rows2 Any (w.alloc (.cells #[v1, v2, v3, v4] 24)) (.slice (some ⟨w.heap.size, 0, none⟩) 4 4) [l1, l2, l3, l4] :=
  rowsL (vs := [v1, v2, v3, v4]) (us := [l1, l2, l3, l4]) (by simp) rfl (by simp) (fun i hi => by
    have : i = 0 ∨ i = 1 ∨ i = 2 ∨ i = 3 := by simp at hi; omega
    rcases this with rfl | rfl | rfl | rfl
    · exact ⟨_, h1⟩
    · exact ⟨_, h2⟩
    · exact ⟨_, h3⟩
    · exact ⟨_, h4⟩)
theorem nWord_vec_len {P : Pr} (hP : Valid P) {e : List Int} (he : Vec P.orders e) : (nWord e P.orders.length).length ≤ 42 ∧ ∀ i, i < e.length → 0 ≤ gt e i ∧ gt e i ≤ 7 := by
  have h1 : ∀ i, i < e.length → 0 ≤ gt e i ∧ gt e i ≤ 7 := fun i hi => by
    have h2 := he.2 i (by rw [← he.1]; exact hi)
    have h3 := hP.ord7 i (by rw [← he.1]; exact hi)
    omega
  have h7 : ∀ i, gt e i ≤ 7 := fun i => by
    by_cases hi : i < e.length
    · exact (h1 i hi).2
    · have : gt e i = 0 := by simp [gt, hi]
      omega
  have := nWord_len h7 P.orders.length
  have := hP.n6
  exact ⟨by omega, h1⟩

set_option maxRecDepth 100000 in
set_option maxHeartbeats 8000000 in
theorem stepAt_ok (P : Pr) (hP : Valid P) (w : World) (p v : Value) (W : List Int) (t : Nat) (Sp S : Nat → Prop) (hp : PresP Sp w p P) (hv : Ints S w v W) (hW : PosW P.orders.length W) (ht : t < W.length) (hrd : RedB P W t) (hl : W.length ≤ 600) :
    Calls Tryz.prog 116 #[p, v, .int .i64 (t : Int)] w (Ret w fun w' r => Own w.heap.size w' r (stepW P W t)) := by
  have hn6 := hP.n6
  obtain ⟨pb, po, rfl⟩ := hp.shape
  obtain ⟨av, cap, rfl, hcap, _⟩ := hv.shape
  obtain ⟨j, m, hx, hjn, hm, hm2, hm7, hom⟩ := hW.letter hP ht
  obtain ⟨vo, vp, vc, _, _, hco, hcp, hcc, h3⟩ := hp.at
  obtain ⟨ao, co, rfl, _, _⟩ := h3.o.shape
  obtain ⟨ap, cp, rfl, _⟩ := Sl.shape h3.p
  obtain ⟨ac, cc, rfl, _⟩ := Sl.shape h3.c
  obtain ⟨vb, vo, hve, _, _, hct⟩ := Ints.at hv t ht
  subst hve
  rw [hx] at hct
  obtain ⟨N, hN⟩ : ∃ N, N = W.length := ⟨_, rfl⟩
  have hhd := head_ints hv t (by omega)
  have htk : (W.take t).length = t := by rw [List.length_take]; omega
  have hrh : ∀ w', (Instr.slice 24 (.slice (some ⟨vb, vo, none⟩) W.length cap) none (some (.int .i64 (t : Int))) none).run Tryz.prog w' = .ok (.slice (some ⟨vb, vo, none⟩) t cap) w' := fun w' => by
    have h := run_head w' (some ⟨vb, vo, none⟩) W.length cap (t : Int) (by omega) (by omega)
    rw [Int.toNat_natCast] at h; exact h
  have ht' : (t : Int) < W.length := by omega
  by_cases hc : t + 1 < W.length ∧ gt W (t + 1) < gt W t
  · have hst : stepW P W t = W.take t ++ [gt W (t + 1)] ++ nWord (gt (gt P.conj (gt W (t + 1) - 1).toNat) ((gt W t - 1).toNat - (gt W (t + 1) - 1).toNat - 1)) P.orders.length ++ W.drop (t + 2) := by unfold stepW; rw [if_pos hc]
    obtain ⟨i, mi, hy, hin, _⟩ := hW.letter hP hc.1
    obtain ⟨vb', vo', hve, _, _, hcy⟩ := Ints.at hv (t + 1) hc.1
    obtain ⟨rfl, rfl⟩ : vb = vb' ∧ vo = vo' := by cases hve; exact ⟨rfl, rfl⟩
    clear hve
    rw [hy] at hcy
    have hij : i < j := by have := hc.2; omega
    rw [hy, hx, show ((i : Int) + 1 - 1).toNat = i by omega, show ((j : Int) + 1 - 1).toNat = j by omega] at hst
    have h1' : (t : Int) + 1 < W.length := by have := hc.1; omega
    obtain ⟨k, hk⟩ : ∃ k, j = i + k + 1 := ⟨j - i - 1, by omega⟩
    rw [show j - i - 1 = k by omega] at hst
    have hcvi := hP.cv i (by omega)
    have hkl : k < (gt P.conj i).length := by rw [hcvi.1]; omega
    obtain ⟨cb, c_, ca2, cp2, hce, _, _, hcc2, hrc⟩ := Rows3.at h3.c i (by rw [hP.cl]; omega)
    subst hce
    obtain ⟨db, d_, da2, dp2, hde, _, _, hcc3, hrd3⟩ := Rows2.at hrc k hkl
    subst hde
    have hEV : Vec P.orders (gt (gt P.conj i) k) := (hcvi.2 k (by omega)).1
    obtain ⟨E, hE⟩ : ∃ E, E = gt (gt P.conj i) k := ⟨_, rfl⟩
    rw [← hE] at hcc3 hrd3 hEV hst
    have hw := nWord_vec_len hP hEV
    have htl := subSl_ints hv (t + 2) W.length (by omega) (Nat.le_refl _)
    rw [List.take_length] at htl
    obtain ⟨sa, sc, hsv, _, _⟩ := htl.shape
    have hrt : ∀ w', (Instr.slice 24 (.slice (some ⟨vb, vo, none⟩) W.length cap) (some (.int .i64 ((t : Int) + 2))) none none).run Tryz.prog w' = .ok (.slice sa (W.drop (t + 2)).length sc) w' := fun w' => by
      have h := run_tail w' (some ⟨vb, vo, none⟩) W.length cap ((t : Int) + 2) (by omega) (by omega)
      rw [show ((t : Int) + 2).toNat = t + 2 by omega, hsv] at h; exact h
    rw [hsv] at htl
    have hdl : (W.drop (t + 2)).length ≤ 600 := by rw [List.length_drop]; omega
    obtain ⟨dl, hdle⟩ : ∃ dl, dl = (W.drop (t + 2)).length := ⟨_, rfl⟩
    rw [← hdle] at hrt htl hdl
    have hflat : [W.take t, [(i : Int) + 1], nWord E P.orders.length, W.drop (t + 2)].flatten = stepW P W t := by rw [hst]; simp [List.append_assoc]
    have hlb : ∀ u ∈ [W.take t, [(i : Int) + 1], nWord E P.orders.length, W.drop (t + 2)], u.length ≤ 1000 := by
      intro u hu
      simp only [List.mem_cons, List.mem_nil_iff, or_false] at hu
      rcases hu with rfl | rfl | rfl | rfl
      · rw [htk]; omega
      · simp
      · have := hw.1; omega
      · rw [← hdle]; omega
    have hwl : (nWord E E.length) = nWord E P.orders.length := by rw [hEV.1]
    obtain ⟨d, hd⟩ : ∃ d, d = k + 1 := ⟨_, rfl⟩
    have hd1 : IntKind.i64.wrap ((j : Int) - (i : Int)) = (d : Int) := by rw [show (j : Int) - (i : Int) = (d : Int) by omega]; exact IntWalk.i64_in _ (by omega)
    have hd2 : IntKind.i64.wrap ((d : Int) - 1) = (k : Int) := by rw [show (d : Int) - 1 = (k : Int) by omega]; exact IntWalk.i64_in _ (by omega)
    have hin6 : i ≤ 6 := by omega
    have hkc : (k : Int) < (gt P.conj i).length := by omega
    have HD := Lib.hid (And.intro hd1 hd2); clear hd1 hd2 hd hk
    have HX := Lib.hid (And.intro hflat (And.intro hlb (And.intro hw (And.intro hwl (And.intro hrd3 (And.intro htl (And.intro hhd (And.intro htk (And.intro hEV hsv)))))))))
    clear hflat hlb hw hwl hrd3 htl hhd htk hEV hsv hst hc hrd hx hy hN hW hE hdle hm hom h3 hp hrc hcvi hkl
    have hlt2 : (i : Int) + 1 < (j : Int) + 1 := by omega
    obtain ⟨M, hM⟩ : ∃ M, M = W.length := ⟨_, rfl⟩
    rw [← hM] at ht' h1' hl hcap hrh hrt ht ⊢
    have hMb : (M : Int) ≤ 600 := by omega
    clear hM
    go_enter Tryz.func116, Tryz.ntmps116
    go_wp2
    go_quiet (fail)
    rename_i nq _
    obtain ⟨wq, hwq⟩ : ∃ wq, wq = w.drewN nq := ⟨_, rfl⟩
    have hgq : Ext w wq := by rw [hwq]; exact grown_drewN _ _ _
    rw [← hwq]
    clear hwq
    have hctq := hgq.cell hct (by simp)
    have hcyq := hgq.cell hcy (by simp)
    clear hct hcy
    go_wp2
    go_quiet (fail)
    obtain ⟨w2, hw2⟩ : ∃ w2, w2 = wq.drewN nq := ⟨_, rfl⟩
    have hg2 : Ext wq w2 := by rw [hw2]; exact grown_drewN _ _ _
    rw [← hw2]
    clear hw2 hctq hcyq
    have hgw := grown_trans hgq hg2
    have f1_ : ∀ w', Ext w2 w' → w'.cell? ⟨pb, po + 2, none⟩ = some (.slice (some ⟨cb, c_, none⟩) P.conj.length cc) := fun w' h => (grown_trans hgw h).cell hcc (by simp)
    have f2_ : ∀ w', Ext w2 w' → w'.cell? ⟨cb, c_ + i, none⟩ = some (.slice (some ⟨db, d_, none⟩) (gt P.conj i).length cp2) := fun w' h => (grown_trans hgw h).cell hcc2 (by simp)
    have f3_ : ∀ w', Ext w2 w' → w'.cell? ⟨db, d_ + k, none⟩ = some (.slice da2 E.length dp2) := fun w' h => (grown_trans hgw h).cell hcc3 (by simp)
    have hic : (i : Int) < P.conj.length := by rw [hP.cl]; omega
    have hEr := Ints.ext HX.out.2.2.2.2.1 hgw
    have hWt := Ints.ext HX.out.2.2.2.2.2.1 hgw
    have hWh := Ints.ext HX.out.2.2.2.2.2.2.1 hgw
    clear hcc hcc2 hcc3 hcp hco
    have hlit := Ints.ext (ints_lit w2 ((i : Int) + 1)) (grown_drew (w2.alloc (.cells #[.int .i64 ((i : Int) + 1)] 2)) none)
    go_wp2
    have hw53 := HD.out.1
    have hw54 := HD.out.2
    have hw60 : IntKind.i64.wrap ((t : Int) + 2) = (t : Int) + 2 := IntWalk.i64_in _ (by omega)
    have hw42 : IntKind.i64.wrap ((i : Int) + 1) = (i : Int) + 1 := IntWalk.i64_in _ (by omega)
    go_region_held3 (fun w' => Ext w2 w') (first | exact grown_drew _ _ | assumption | exact grown_trans (World.grownBy_alloc _ _ _) (grown_drew _ _) | exact grown_trans hgN (World.grownBy_alloc _ _ _) | exact grown_trans hgN2 (World.grownBy_alloc _ _ _) | exact grown_trans hgN (grown_trans (World.grownBy_alloc _ _ _) (World.grownBy_alloc _ _ _)) | exact World.grownBy_alloc _ _ _)
      (first
        | (go_at_call 189; refine Calls.mono (Calls.rel2 (w0 := w2) (by first | assumption | exact grown_trans hgN (World.grownBy_alloc _ _ _)) (concatInts_ok _ _ [W.take t, [(i : Int) + 1], nWord E P.orders.length, W.drop (t + 2)] Any (rows4L (by first | exact Ints.ext hWh hgN | exact Ints.ext hWh hgN2) (by first | exact Ints.ext hlit hgN | exact Ints.ext hlit hgN2) hNi (by first | exact Ints.ext hWt hgN | exact Ints.ext hWt hgN2)) HX.out.2.1 (by simp))) ?_; rintro eC wC ⟨vC, rfl, hgC, hgC2, hsC, hOC, _⟩)
        | (go_at_call 189; refine Calls.mono (Calls.rel2 (w0 := w2) (by first | assumption | exact grown_trans hgN (grown_trans (World.grownBy_alloc _ _ _) (World.grownBy_alloc _ _ _))) (concatInts_ok _ _ [W.take t, [(i : Int) + 1], nWord E P.orders.length, W.drop (t + 2)] Any (by have h := rows4L (Ints.ext hWh (grown_trans hgN (World.grownBy_alloc wN (.cells #[.int .i64 ((i : Int) + 1)] 2) none))) (ints_lit wN ((i : Int) + 1)) (Ints.ext hNi (World.grownBy_alloc wN (.cells #[.int .i64 ((i : Int) + 1)] 2) none)) (Ints.ext hWt (grown_trans hgN (World.grownBy_alloc wN (.cells #[.int .i64 ((i : Int) + 1)] 2) none))); rw [show (wN.alloc (.cells #[.int .i64 ((i : Int) + 1)] 2)).heap.size = wN.heap.size + 1 by simp] at h; exact h) HX.out.2.1 (by simp))) ?_; rintro eC wC ⟨vC, rfl, hgC, hgC2, hsC, hOC, _⟩)
        | (go_at_call 173; refine Calls.mono (Calls.rel2 (w0 := w2) (by assumption) (normalWord_ok _ _ E Any (Ints.sub (Ints.ext hEr (by assumption)) (fun _ _ _ => trivial)) (by rw [HX.out.2.2.2.2.2.2.2.2.1.1]; exact hn6) HX.out.2.2.1.2)) ?_; rintro eN wN ⟨vN, rfl, hgN, hgN2, hsN, hON⟩; rw [HX.out.2.2.2.1] at hON; have hNi := hON.ints (by have := HX.out.2.2.1.1; omega); obtain ⟨na, nc, hvn, _, _⟩ := hNi.shape; subst hvn))
    all_goals
      rw [HX.out.1] at hOC
      have hfin : Own w.heap.size wC vC (stepW P W t) := hOC.weak (Nat.le_trans hgw.size hsC)
      have HFN := Lib.hid hfin; clear hfin hOC hw53 hw54 hw60 hw42
      go_wp2
      go_ret
      exact ⟨_, rfl, grown_trans hgw hgC, HFN.out⟩
  · have hst : stepW P W t = W.take t ++ nWord (gt P.powers (gt W t - 1).toNat) P.orders.length ++ W.drop (t + ordL P (gt W t)) := by unfold stepW; rw [if_neg hc]
    have hfit : t + m ≤ W.length := by
      rcases hrd with h | h
      · exact absurd h hc
      · rw [hom] at h; exact h.1
    rw [hom, hx, show ((j : Int) + 1 - 1).toNat = j by omega] at hst
    obtain ⟨db, d_, da2, dp2, hde, _, _, hcc3, hrd3⟩ := Rows2.at h3.p j (by rw [hP.pl]; omega)
    subst hde
    obtain ⟨ob, oo, hoe, _, _, hcm⟩ := Ints.at h3.o j hjn
    subst hoe
    rw [hm] at hcm
    have hEV : Vec P.orders (gt P.powers j) := (hP.pv j hjn).1
    obtain ⟨E, hE⟩ : ∃ E, E = gt P.powers j := ⟨_, rfl⟩
    rw [← hE] at hcc3 hrd3 hEV hst
    have hw := nWord_vec_len hP hEV
    have htl := subSl_ints hv (t + m) W.length (by omega) (Nat.le_refl _)
    rw [List.take_length] at htl
    obtain ⟨sa, sc, hsv, _, _⟩ := htl.shape
    have hrt : ∀ w', (Instr.slice 24 (.slice (some ⟨vb, vo, none⟩) W.length cap) (some (.int .i64 ((t : Int) + (m : Int)))) none none).run Tryz.prog w' = .ok (.slice sa (W.drop (t + m)).length sc) w' := fun w' => by
      have h := run_tail w' (some ⟨vb, vo, none⟩) W.length cap ((t : Int) + (m : Int)) (by omega) (by omega)
      rw [show ((t : Int) + (m : Int)).toNat = t + m by omega, hsv] at h; exact h
    rw [hsv] at htl
    have hdl : (W.drop (t + m)).length ≤ 600 := by rw [List.length_drop]; omega
    obtain ⟨dl, hdle⟩ : ∃ dl, dl = (W.drop (t + m)).length := ⟨_, rfl⟩
    rw [← hdle] at hrt htl hdl
    have hflat : [W.take t, nWord E P.orders.length, W.drop (t + m)].flatten = stepW P W t := by rw [hst]; simp [List.append_assoc]
    have hlb : ∀ u ∈ [W.take t, nWord E P.orders.length, W.drop (t + m)], u.length ≤ 1000 := by
      intro u hu
      simp only [List.mem_cons, List.mem_nil_iff, or_false] at hu
      rcases hu with rfl | rfl | rfl
      · rw [htk]; omega
      · have := hw.1; omega
      · rw [← hdle]; omega
    have hwl : (nWord E E.length) = nWord E P.orders.length := by rw [hEV.1]
    have hcmp : ∀ (h1 : t + 1 < W.length), ¬ gt W (t + 1) < (j : Int) + 1 := fun h1 h2 => hc ⟨h1, by rw [hx]; exact h2⟩
    have HX := Lib.hid (And.intro hflat (And.intro hlb (And.intro hw (And.intro hwl (And.intro hrd3 (And.intro htl (And.intro hhd (And.intro htk (And.intro hEV (And.intro hsv (And.intro hv hcmp)))))))))))
    clear hflat hlb hw hwl hrd3 htl hhd htk hEV hsv hst hc hrd hx hN hW hE hdle hm hom h3 hp hcmp
    obtain ⟨M, hM⟩ : ∃ M, M = W.length := ⟨_, rfl⟩
    have HM := Lib.hid hM
    rw [← hM] at ht' hl hcap hrh hrt ht hfit hv ⊢
    have hMb : (M : Int) ≤ 600 := by omega
    clear hM hv
    go_enter Tryz.func116, Tryz.ntmps116
    go_upto_region 1 with fail
    go_cut [26] (fun b wx => b = .bool false ∧ Ext w wx)
    case' rest =>
      obtain ⟨rfl, hgw⟩ := hcut
      have hjP : (j : Int) < P.powers.length := by rw [hP.pl]; omega
      have hjO : (j : Int) < P.orders.length := by omega
      have hctc := hgw.cell hct (by simp)
      have f1_ : ∀ w', Ext wc w' → w'.cell? ⟨pb, po + 1, none⟩ = some (.slice (some ⟨db, d_, none⟩) P.powers.length cp) := fun w' h => (grown_trans hgw h).cell hcp (by simp)
      have f2_ : ∀ w', Ext wc w' → w'.cell? ⟨db, d_ + j, none⟩ = some (.slice da2 E.length dp2) := fun w' h => (grown_trans hgw h).cell hcc3 (by simp)
      have f3_ : ∀ w', Ext wc w' → w'.cell? ⟨pb, po, none⟩ = some (.slice (some ⟨ob, oo, none⟩) P.orders.length co) := fun w' h => (grown_trans hgw h).cell hco (by simp)
      have f4_ : ∀ w', Ext wc w' → w'.cell? ⟨ob, oo + j, none⟩ = some (.int .i64 (m : Int)) := fun w' h => (grown_trans hgw h).cell hcm (by simp)
      have hEr := Ints.ext HX.out.2.2.2.2.1 hgw
      have hWt := Ints.ext HX.out.2.2.2.2.2.1 hgw
      have hWh := Ints.ext HX.out.2.2.2.2.2.2.1 hgw
      clear hcc hcc3 hcp hco hcm hct
      go_wp2
      clear hctc
      have hw60 : IntKind.i64.wrap ((t : Int) + (m : Int)) = (t : Int) + (m : Int) := IntWalk.i64_in _ (by omega)
      go_region_held3 (fun w' => Ext wc w') (first | exact grown_drew _ _ | assumption | exact grown_trans hgN (World.grownBy_alloc _ _ _))
        (first
          | (go_at_call 189; refine Calls.mono (Calls.rel2 (w0 := wc) (by first | assumption | exact grown_trans hgN (World.grownBy_alloc _ _ _)) (concatInts_ok _ _ [W.take t, nWord E P.orders.length, W.drop (t + m)] Any (rows3L (Ints.ext hWh hgN) hNi (Ints.ext hWt hgN)) HX.out.2.1 (by simp))) ?_; rintro eC wC ⟨vC, rfl, hgC, hgC2, hsC, hOC, _⟩)
          | (go_at_call 173; refine Calls.mono (Calls.rel2 (w0 := wc) (by assumption) (normalWord_ok _ _ E Any (Ints.sub (Ints.ext hEr (by assumption)) (fun _ _ _ => trivial)) (by rw [HX.out.2.2.2.2.2.2.2.2.1.1]; exact hn6) HX.out.2.2.1.2)) ?_; rintro eN wN ⟨vN, rfl, hgN, hgN2, hsN, hON⟩; rw [HX.out.2.2.2.1] at hON; have hNi := hON.ints (by have := HX.out.2.2.1.1; omega); obtain ⟨na, nc, hvn, _, _⟩ := hNi.shape; subst hvn))
      all_goals
        rw [HX.out.1] at hOC
        have hfin : Own w.heap.size wC vC (stepW P W t) := hOC.weak (Nat.le_trans hgw.size hsC)
        have HFN := Lib.hid hfin; clear hfin hOC hw60
        go_wp2
        go_ret
        exact ⟨_, rfl, grown_trans hgw hgC, HFN.out⟩
    by_cases h1 : t + 1 < M
    · have h1' : (t : Int) + 1 < M := by omega
      obtain ⟨vb', vo', hve, _, _, hcy⟩ := Ints.at HX.out.2.2.2.2.2.2.2.2.2.2.1 (t + 1) (by rw [← HM.out]; exact h1)
      obtain ⟨rfl, rfl⟩ : vb = vb' ∧ vo = vo' := by cases hve; exact ⟨rfl, rfl⟩
      clear hve
      have hcm2 := HX.out.2.2.2.2.2.2.2.2.2.2.2 (by rw [← HM.out]; exact h1)
      obtain ⟨y, hy⟩ : ∃ y, y = gt W (t + 1) := ⟨_, rfl⟩
      rw [← hy] at hcy hcm2
      have hdd : decide (y < (j : Int) + 1) = false := decide_eq_false hcm2
      clear hy
      go_wp2
      go_quiet (fail)
      go_wp2
      go_meet
      exact ⟨rfl, grown_drewN _ _ _⟩
    · have h1' : ¬ (t : Int) + 1 < M := by omega
      have hw1 : IntKind.i64.wrap ((t : Int) + 1) = (t : Int) + 1 := IntWalk.i64_in _ (by omega)
      have hd1 : decide ((t : Int) + 1 < M) = false := decide_eq_false h1'
      go_wp2
      go_quiet (fail)
      go_wp2
      go_meet
      exact ⟨rfl, grown_drewN _ _ _⟩

end Go.Proofs.YtoakmefajbbggaaGreat
namespace Go.Proofs.YtoakmefajbbggaaGreat
open Go.RowKit

theorem vecW_len (n : Nat) (w : List Int) : (vecW n w).length = n := by unfold vecW; rw [List.length_map, List.length_range]
theorem gt_vecW {n i : Nat} (h : i < n) (w : List Int) : gt (vecW n w) i = ((w.count ((i : Int) + 1) : Nat) : Int) := by
  unfold vecW
  rw [gt_map _ _ _ (by rw [List.length_range]; exact h), gt_range h]
theorem vecW_nil (n : Nat) : vecW n [] = List.replicate n 0 := by
  refine ext_gt (by rw [vecW_len, List.length_replicate]) (fun i hi => ?_)
  rw [vecW_len] at hi
  rw [gt_vecW hi, gt_replicate]; rfl
theorem vecW_step {n : Nat} {W : List Int} {k a : Nat} (hk : k < W.length) (ha : a < n) (h : gt W k = (a : Int) + 1) : vecW n (W.take (k + 1)) = (vecW n (W.take k)).set a (gt (vecW n (W.take k)) a + 1) := by
  refine ext_gt (by rw [vecW_len, List.length_set, vecW_len]) (fun i hi => ?_)
  rw [vecW_len] at hi
  rw [gt_vecW hi, take_succ_gt _ k hk, List.count_append, h]
  by_cases hia : i = a
  · subst hia
    rw [gt_set_eq _ _ _ (by rw [vecW_len]; exact hi), gt_vecW hi]
    simp
  · rw [gt_set_ne _ _ _ _ (Ne.symm hia), gt_vecW hi]
    have : List.count ((i : Int) + 1) [(a : Int) + 1] = 0 := by rw [List.count_singleton]; simp; omega
    rw [this]; simp
theorem count_le {n : Nat} (W : List Int) (i k : Nat) (hi : i < n) : 0 ≤ gt (vecW n (W.take k)) i ∧ gt (vecW n (W.take k)) i ≤ W.length := by
  rw [gt_vecW hi]
  have h1 := List.count_le_length (a := (i : Int) + 1) (l := W.take k)
  have h2 : (W.take k).length ≤ W.length := by rw [List.length_take]; omega
  omega

theorem stepW_len {P : Pr} (hP : Valid P) {W : List Int} (hW : PosW P.orders.length W) {t : Nat} (ht : t < W.length) : (stepW P W t).length ≤ W.length + 42 := by
  obtain ⟨j, m, hx, hjn, _⟩ := hW.letter hP ht
  unfold stepW
  split
  · rename_i hc
    obtain ⟨i, mi, hy, hin, _⟩ := hW.letter hP hc.1
    have hij : i < j := by have := hc.2; omega
    rw [hy, hx, show ((i : Int) + 1 - 1).toNat = i by omega, show ((j : Int) + 1 - 1).toNat = j by omega]
    have h1 := (nWord_vec_len hP ((hP.cv i (by omega)).2 (j - i - 1) (by omega)).1).1
    simp only [List.length_append, List.length_take, List.length_drop, List.length_singleton]
    omega
  · rw [hx, show ((j : Int) + 1 - 1).toNat = j by omega]
    have h1 := (nWord_vec_len hP (hP.pv j hjn).1).1
    simp only [List.length_append, List.length_take, List.length_drop]
    omega
/-- what collecting hands back -/
def ColR (P : Pr) (lim : Nat) (W : List Int) (w' : World) (v : Value) : Prop :=
  (∃ (x : List Int) (k : Nat), colW P lim W = some (x, k) ∧ ∃ (a : Option Addr) (n c : Nat), v = .tuple #[.slice a n c, .int .i64 (k : Int), .int .i64 0] ∧ Ints Any w' (.slice a n c) x) ∨ (colW P lim W = none ∧ v = .tuple #[.slice none 0 0, .int .i64 0, .int .i64 3])

set_option maxRecDepth 100000 in
set_option maxHeartbeats 8000000 in
theorem collect_ok (P : Pr) (hP : Valid P) (w : World) (p v : Value) (W : List Int) (lim : Nat) (hlim : lim ≤ 2000) (Sp S : Nat → Prop) (hp : PresP Sp w p P) (hv : Ints S w v W) (hW : PosW P.orders.length W) (hl : W.length ≤ 256) :
    Calls Tryz.prog 56 #[p, v, .int .i64 (lim : Int)] w (Ret w (ColR P lim W)) := by
  have hn6 := hP.n6
  obtain ⟨pb, po, rfl⟩ := hp.shape
  obtain ⟨av, cap, rfl, _, _⟩ := hv.shape
  have hv1 : Ints Any w (.slice av W.length cap) W := Ints.sub hv (fun _ _ _ => trivial)
  have HV := Lib.hid (And.intro hv1 hp); clear hv hp hv1
  go_enter Tryz.func56, Tryz.ntmps56
  go_wp2
  go_loopw [1, 9] (fun wv nv wr => ∃ (k : Nat) (U : List Int) (v1 : Value), v1 = wv ∧ nv = .int .i64 (k : Int) ∧ k ≤ lim ∧ Ext w wr ∧ Hid (Ints Any wr v1 U ∧ PosW P.orders.length U ∧ U.length ≤ 256 ∧ colW P lim W = (colW P (lim - k) U).map (fun x => (x.1, x.2 + k)))) (fun _ nv _ => lim - (intOf nv).toNat)
  case atStart => exact ⟨0, W, _, rfl, rfl, by omega, Ext.refl _, Lib.hid ⟨HV.out.1, hW, hl, by rw [Nat.sub_zero]; cases colW P lim W <;> rfl⟩⟩
  case round =>
    clear hW hl
    obtain ⟨k, U, v1, rfl, rfl, hk, hg, hU⟩ := hrel
    have hl := hU.out.2.2.1
    obtain ⟨ua, uc, rfl, _, _⟩ := hU.out.1.shape
    have hra := reducibleAt_ok P hP wr _ _ U Sp Any (HV.out.2.ext hg) hU.out.1 hU.out.2.1 (by omega)
    obtain ⟨M, hM⟩ : ∃ M, M = U.length := ⟨_, rfl⟩
    rw [← hM] at hra hl ⊢
    have HM := Lib.hid (And.intro hM hra); clear hM hra
    go_wp2_with fail
    refine Calls.mono HM.out.2 ?_
    rintro e1 w1 ⟨x1, rfl, hg1, r, rfl, hF⟩
    have hgw1 := grown_trans hg hg1
    rcases hF with ⟨rfl, hno⟩ | ⟨t, rfl, htU, hrd, hmin⟩
    · have hend := colW_end (P := P) (w := U) (.inl ⟨rfl, hno⟩) (lim - k)
      have hcol : colW P lim W = some (vecW P.orders.length U, k) := by rw [hU.out.2.2.2, hend]; simp
      obtain ⟨ao, co, hco, hoi⟩ := (HV.out.2.ext hgw1).ordAt
      have HE := Lib.hid hcol; clear hcol hend hno hoi
      obtain ⟨n, hn⟩ : ∃ n, n = P.orders.length := ⟨_, rfl⟩
      rw [← hn] at hco hn6
      have HN := Lib.hid hn; clear hn
      go_wp2_with (first | (at_make; refine wp_make_ints rfl _ _ rfl w1.heap.size n w1.heap.size rfl _ rfl rfl rfl (by omega) (Nat.le_refl _) ?_; intro w2 ho2 hg2 hlt2) | fail)
      clear hco
      rw [← vecW_nil] at ho2
      have HO := Lib.hid (And.intro ho2 hg2); clear ho2 hg2 hlt2
      go_wp2
      go_loopw [29] (fun iv wr => ∃ q : Nat, iv = .int .i64 (q : Int) ∧ q ≤ M ∧ Ext w1 wr ∧ Own w1.heap.size wr (.slice (some ⟨w1.heap.size, 0, none⟩) n n) (vecW n (U.take q))) (fun iv _ => M - (intOf iv).toNat)
      case atStart => exact ⟨0, rfl, by omega, HO.out.2, by rw [List.take_zero]; exact HO.out.1⟩
      case round =>
        obtain ⟨q, rfl, hq, hgq, hO⟩ := hrel
        by_cases hlt : q < M
        · have hlt' : (q : Int) < M := by omega
          have hqU : q < U.length := by rw [← HM.out.1]; exact hlt
          obtain ⟨a, m, hx, han, _⟩ := hU.out.2.1.letter hP hqU
          rw [← HN.out] at han
          obtain ⟨ub, uo, hue, _, _, huc⟩ := Ints.at (Ints.ext (Ints.ext hU.out.1 hg1) hgq) q hqU
          subst hue
          rw [hx] at huc
          have hst := vecW_step (n := n) hqU han hx
          have hcb := count_le (n := n) U a q han
          have hcell := hO.cell a (by rw [vecW_len]; exact han)
          have hfr := hO.frozen a
          obtain ⟨hO2, hg2⟩ := hO.store a (gt (vecW n (U.take q)) a + 1)
          obtain ⟨c, hc⟩ : ∃ c, c = gt (vecW n (U.take q)) a := ⟨_, rfl⟩
          rw [← hc] at hcell hO2 hg2 hcb hst
          rw [← hst] at hO2
          have hcb2 : 0 ≤ c ∧ c ≤ 256 := by have := HM.out.1; omega
          have hgn : Ext w1 (wr.setCell ⟨w1.heap.size, a, none⟩ (.int .i64 (c + 1))) := grown_own hgq hg2 (fun j hj hlt => by cases hj; omega)
          have han' : (a : Int) < n := by omega
          have hao : a < 10 := by omega
          have HX := Lib.hid (And.intro hO2 hgn); clear hO2 hgn hg2 hst hcb hc hx hO hqU
          go_wp2
          go_roundw
          case rel => exact ⟨q + 1, by go_num, by omega, HX.out.2, HX.out.1⟩
          case measure => simp [intOf]; omega
        · have hqe : q = M := by omega
          have hfin : Own w1.heap.size wr (.slice (some ⟨w1.heap.size, 0, none⟩) n n) (vecW P.orders.length U) := by
            rw [hqe, HM.out.1, List.take_length, HN.out] at hO
            rw [HN.out]; exact hO
          have hfi := hfin.ints (by rw [vecW_len, ← HN.out]; omega)
          have HF := Lib.hid hfi; clear hfi hfin hO
          have hnl : ¬ (q : Int) < (M : Int) := by omega
          go_wp2
          go_ret3
          exact ⟨_, rfl, grown_trans hgw1 hgq, .inl ⟨_, k, HE.out, _, _, _, rfl, HF.out⟩⟩
    · by_cases hkl : k = lim
      · subst hkl
        have hcol : colW P k W = none := by
          rw [hU.out.2.2.2, Nat.sub_self, colW_no (t := t) (.inr ⟨t, rfl, htU, hrd, hmin⟩)]; rfl
        have HE := Lib.hid hcol; clear hcol hmin hrd htU
        go_wp2
        go_ret3
        exact ⟨_, rfl, hgw1, .inr ⟨HE.out, rfl⟩⟩
      · have hkn : ¬ (k : Int) = (lim : Int) := by omega
        have hkb : ((k : Int) == (lim : Int)) = false := by simp; omega
        have hst := colW_step (P := P) (w := U) (t := t) (.inr ⟨t, rfl, htU, hrd, hmin⟩) (lim - k - 1)
        rw [show lim - k - 1 + 1 = lim - k by omega] at hst
        have hsp := stepAt_ok P hP w1 (.pointer (some ⟨pb, po, none⟩)) _ U t Sp Any (HV.out.2.ext hgw1) (Ints.ext hU.out.1 hg1) hU.out.2.1 htU hrd (by have := HM.out.1; omega)
        rw [← HM.out.1] at hsp
        have hpos := hU.out.2.1.step (P := P) t
        have hsl := stepW_len hP hU.out.2.1 htU
        have HST := Lib.hid (And.intro hst (And.intro hsp hpos)); clear hst hsp hpos hkl hmin hrd htU
        go_wp2_with fail
        refine Calls.mono HST.out.2.1 ?_
        rintro e2 w2 ⟨x2, rfl, hg2, hO⟩
        have hOi := hO.ints (by have := HM.out.1; omega)
        obtain ⟨sa, sc, rfl, _, _⟩ := hOi.shape
        have hgw2 := grown_trans hgw1 hg2
        obtain ⟨L, hL⟩ : ∃ L, L = (stepW P U t).length := ⟨_, rfl⟩
        rw [← hL] at hOi hO ⊢
        by_cases hbig : 256 < L
        · have hcol : colW P lim W = none := by rw [hU.out.2.2.2, HST.out.1, if_pos (by rw [← hL]; exact hbig)]; rfl
          have HE := Lib.hid hcol; clear hcol hO hOi hL hsl
          have hbig' : (256 : Int) < L := by omega
          go_wp2
          go_ret3
          exact ⟨_, rfl, hgw2, .inr ⟨HE.out, rfl⟩⟩
        · have hnb : ¬ (256 : Int) < L := by omega
          have hnext : colW P lim W = (colW P (lim - (k + 1)) (stepW P U t)).map (fun x => (x.1, x.2 + (k + 1))) := by
            rw [hU.out.2.2.2, HST.out.1, if_neg (by rw [← hL]; exact hbig), show lim - (k + 1) = lim - k - 1 by omega]
            cases colW P (lim - k - 1) (stepW P U t) with
            | none => rfl
            | some y => simp [Nat.add_comm, Nat.add_left_comm]
          have hrel : Hid (Ints Any w2 (.slice sa L sc) (stepW P U t) ∧ PosW P.orders.length (stepW P U t) ∧ (stepW P U t).length ≤ 256 ∧ colW P lim W = (colW P (lim - (k + 1)) (stepW P U t)).map (fun x => (x.1, x.2 + (k + 1)))) := Lib.hid ⟨hOi, HST.out.2.2, by omega, hnext⟩
          clear hnext hO hOi hL hsl hbig
          go_wp2
          go_roundw
          case rel => exact ⟨k + 1, stepW P U t, _, rfl, by go_num, by omega, hgw2, hrel⟩
          case measure => simp [intOf]; omega

end Go.Proofs.YtoakmefajbbggaaGreat
namespace Go.Proofs.YtoakmefajbbggaaGreat
open Go.RowKit

/-- what may be collected -/
def CwOk (P : Pr) (W : List Int) : Prop := validB P = true ∧ PosW P.orders.length W ∧ W.length ≤ 64
/-- what CollectWord hands back -/
def CwR (P : Pr) (W : List Int) (w' : World) (v : Value) : Prop :=
  (¬ CwOk P W ∧ v = .tuple #[.slice none 0 0, .int .i64 0, .int .i64 1]) ∨ (CwOk P W ∧ ColR P 2000 W w' v)

set_option maxRecDepth 100000 in
set_option maxHeartbeats 4000000 in
theorem iCollectWord_ok (w : World) (pv v : Value) (P : Pr) (W : List Int) (Sp S : Nat → Prop) (hpv : PresV Sp w pv P) (hv : Ints S w v W) (hl : W.length ≤ 100000) :
    Calls Tryz.prog 9 #[pv, v, .int .i64 2000] w (Ret w (CwR P W)) := by
  obtain ⟨vo, vp, vc, rfl, h3⟩ := hpv
  have hp0 := PresP.box h3 28
  have hg0 : Ext w (w.alloc (.cells #[vo, vp, vc] 28)) := World.grownBy_alloc _ _ _
  have hv0 := Ints.ext hv hg0
  obtain ⟨av, cap, rfl, _, _⟩ := hv.shape
  have hcon := isPresentation_ok (w.alloc (.cells #[vo, vp, vc] 28)) _ P Sp ⟨vo, vp, vc, rfl, h3.ext hg0⟩
  have c0 : (w.alloc (.cells #[vo, vp, vc] 28)).cell? ⟨w.heap.size, 0, none⟩ = some vo := World.cell?_alloc_at _ _ _ _ rfl
  have c1 : (w.alloc (.cells #[vo, vp, vc] 28)).cell? ⟨w.heap.size, 1, none⟩ = some vp := World.cell?_alloc_at _ _ _ _ rfl
  have c2 : (w.alloc (.cells #[vo, vp, vc] 28)).cell? ⟨w.heap.size, 2, none⟩ = some vc := World.cell?_alloc_at _ _ _ _ rfl
  generalize hwz : (w.alloc (.cells #[vo, vp, vc] 28)) = wz at *
  have HC := Lib.hid (And.intro hp0 (And.intro hv0 hg0)); clear hp0 hv0 hg0 hv h3
  go_enter Tryz.func9, Tryz.ntmps9
  go_wp2_with fail
  clear hwz c0 c1 c2
  refine Calls.mono hcon ?_
  rintro e1 w1 ⟨v1, rfl, hg1, rfl⟩
  clear hcon
  cases hvb : validB P with
  | false =>
    have HB := Lib.hid hvb; clear hvb
    go_wp2
    go_ret3
    exact ⟨_, rfl, grown_trans HC.out.2.2 hg1, .inl ⟨(fun h => by have := h.1; rw [HB.out] at this; cases this), rfl⟩⟩
  | true =>
    have hP := valid_of hvb
    have HB := Lib.hid (And.intro hvb hP); clear hvb hP
    obtain ⟨M, hM⟩ : ∃ M, M = W.length := ⟨_, rfl⟩
    have hpw := positiveWord_ok P (by have := HB.out.2.n6; omega) w1 _ _ W _ _ (HC.out.1.ext hg1) (Ints.ext HC.out.2.1 hg1) (by omega)
    rw [← hM] at hpw ⊢
    have HM := Lib.hid hM; clear hM hl
    go_wp2_with fail
    refine Calls.mono hpw ?_
    rintro e2 w2 ⟨v2, rfl, hg2, r2, rfl, hr2⟩
    clear hpw
    have hgw := grown_trans HC.out.2.2 (grown_trans hg1 hg2)
    cases r2 with
    | false =>
      have HN := Lib.hid hr2; clear hr2
      go_wp2
      go_ret3
      exact ⟨_, rfl, hgw, .inl ⟨(fun h => by have := HN.out.2 h.2.1; cases this), rfl⟩⟩
    | true =>
      have hW := hr2.1 rfl
      clear hr2
      by_cases h64 : 64 < M
      · have h64' : (64 : Int) < M := by omega
        have HN := Lib.hid h64; clear h64 hW
        go_wp2
        go_ret3
        exact ⟨_, rfl, hgw, .inl ⟨(fun h => by have := h.2.2; have := HN.out; have := HM.out; omega), rfl⟩⟩
      · have h64' : ¬ (64 : Int) < M := by omega
        have hcol := collect_ok P HB.out.2 w2 _ _ W 2000 (by omega) _ _ (HC.out.1.ext (grown_trans hg1 hg2)) (Ints.ext HC.out.2.1 (grown_trans hg1 hg2)) hW (by have := HM.out; omega)
        rw [← HM.out] at hcol
        have hok : CwOk P W := ⟨HB.out.1, hW, by rw [← HM.out]; omega⟩
        have HK := Lib.hid hok; clear hok hW h64
        go_wp2_with fail
        refine Calls.mono (inside_ok 2000 0 2000 w2) ?_
        rintro _ _ ⟨rfl, rfl⟩
        have hin : inB 2000 0 2000 = true := by decide
        rw [hin]
        clear hin
        go_wp2_with fail
        refine Calls.mono hcol ?_
        rintro e3 w3 ⟨v3, rfl, hg3, hR⟩
        clear hcol
        rcases hR with ⟨x, k, hck, ao, n, c, rfl, hx⟩ | ⟨hno, rfl⟩
        · have HX := Lib.hid (And.intro hck hx); clear hck hx
          go_wp2
          go_ret3
          exact ⟨_, rfl, grown_trans hgw hg3, .inr ⟨HK.out, .inl ⟨x, k, HX.out.1, ao, n, c, rfl, HX.out.2⟩⟩⟩
        · have HX := Lib.hid hno; clear hno
          go_wp2
          go_ret3
          exact ⟨_, rfl, grown_trans hgw hg3, .inr ⟨HK.out, .inr ⟨HX.out, rfl⟩⟩⟩

end Go.Proofs.YtoakmefajbbggaaGreat
