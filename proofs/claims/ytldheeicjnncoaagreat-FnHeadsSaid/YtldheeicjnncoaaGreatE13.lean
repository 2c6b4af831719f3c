/-
  Drawing: spec.l07Draw.
  Drawing: spec.l12Pair and spec.l13Draw.
  Drawing: spec.l01From makes the source of numbers.
  Drawing: spec.l08DrawIndex, DrawHeadPresentation.
  Drawing: laws.big, spec.DrawProductSize.
  The laws' comparisons: laws.eqInt64SS, eqInt64SSS, eqPresentation.
  laws.likeInts, like29, like39: whether two lists are alike (printed by gen_like.py).
  laws.likeP9 on equal presentations.
  laws.unit9 and units9 (from the first index on).
  laws.units9 from any index on.
  laws.size9, impl.ElementAt on a group.
  laws.FnHeads answers true (printed by gen_lhd.py).
  The rows' arguments: how a presentation that came in, or a list, reads in this claim's words.
  Opening the argument of a row over bytes.
  laws.FnHeads holds: whatever the bytes, the law answers true and the bytes read as they did. No condition. (Printed by gen_rowb.py.)
-/
import Derived.Test.YtldheeicjnncoaaGreatE1
import Derived.Test.YtldheeicjnncoaaGreatE10
import Derived.Test.YtldheeicjnncoaaGreatE11
import Derived.Test.YtldheeicjnncoaaGreatE12
import Derived.Test.YtldheeicjnncoaaGreatE2
import Derived.Test.YtldheeicjnncoaaGreatE3
import Derived.Test.YtldheeicjnncoaaGreatE4
import Derived.Test.YtldheeicjnncoaaGreatE5
import Derived.Test.YtldheeicjnncoaaGreatE6
import Derived.Test.YtldheeicjnncoaaGreatE7
import Derived.Test.YtldheeicjnncoaaGreatE8
import Derived.Test.YtldheeicjnncoaaGreatE9
import Derived.StillTailTactics
import Derived.Deep.RegionHeld3
import Derived.Carry
import Derived.Deep.Slices
import Derived.ChangeSame
import Derived.ChangeSlices
import Derived.JoinedOf
import Derived.JoinedAt
import Derived.JoinedCond
import Derived.ReadAgain
namespace Go.Proofs.YtldheeicjnncoaaGreat
open Go.RowKit
attribute [local go_sem ↓] Go.wp_at_zero Go.wp_at_succ

set_option maxRecDepth 100000 in
set_option maxHeartbeats 16000000 in
theorem l07DrawL_ok (B0 : Nat) (w : World) (sb : Nat) (limit : Int) (hB0 : B0 ≤ w.heap.size) (hs : Src B0 w sb) :
    Calls Tryz.prog 81 #[.pointer (some ⟨sb, 0, none⟩), .int .i64 limit] w (Mut w (some sb) (DrawR B0 sb (PresAL 7 (LimOk limit) w.heap.size))) := by
  have hsb := hs.lt
  have hbB := Box3.made w 28 (.slice none 0 0) (.slice none 0 0) (.slice none 0 0)
  have hg0 : Ext w (w.alloc (.cells #[.slice none 0 0, .slice none 0 0, .slice none 0 0] 28)) := World.grownBy_alloc _ _ _
  have hs0 : (w.alloc (.cells #[.slice none 0 0, .slice none 0 0, .slice none 0 0] 28)).heap.size = w.heap.size + 1 := by simp
  have hsW := Lib.hid (hs.ext hg0); clear hs
  go_enter Tryz.func81, Tryz.ntmps81
  go_wp2_with fail
  generalize w.alloc (.cells #[.slice none 0 0, .slice none 0 0, .slice none 0 0] 28) = w0 at *
  have hs00 : w.heap.size + 1 ≤ w0.heap.size := by omega
  clear hs0
  refine Calls.mono (l07GroupL_ok B0 w0 sb limit (by omega) hsW.out) ?_
  rintro e1 w1 ⟨v1, rfl, hg1, hP1, hs1⟩
  obtain ⟨vo, vp, vc, Q, rfl, hV, hQ, hLQ⟩ := hP1
  have HLQ := Lib.hid hLQ; clear hLQ
  obtain ⟨a1, n1, c1, a2, n2, c2, a3, n3, c3, rfl, rfl, rfl⟩ := PresN3.shape ⟨Q, hV.shp, hQ⟩
  have hgq : Ext w1 (w1.alloc (.cells #[.slice a1 n1 c1, .slice a2 n2 c2, .slice a3 n3 c3] 28)) := World.grownBy_alloc _ _ _
  have hbQ := Box3.made w1 28 (.slice a1 n1 c1) (.slice a2 n2 c2) (.slice a3 n3 c3)
  obtain ⟨pb, hpb⟩ : ∃ pb, pb = w1.heap.size := ⟨_, rfl⟩
  rw [← hpb] at hbQ
  have hs1' := hg1.size
  have hQ2 : Pres3 (fun k => w0.heap.size ≤ k ∧ k ≠ pb) (w1.alloc (.cells #[.slice a1 n1 c1, .slice a2 n2 c2, .slice a3 n3 c3] 28)) (.slice a1 n1 c1) (.slice a2 n2 c2) (.slice a3 n3 c3) Q := hQ.mono (fun k hk hlt => ⟨⟨hk, by omega⟩, Nat.lt_of_lt_of_le hlt hgq.size, hgq.block k hlt (by simp)⟩)
  have hb1 := hbB.moved hg1 (by omega)
  have hb2 := hb1.ext hgq
  have hs2 := hs1.ext hgq
  have hgw2 := grown_trans (grown_of_ext (some sb) hg0) (grown_trans hg1 (grown_of_ext (some sb) hgq))
  have HP := Lib.hid hpb
  have HQ := Lib.hid (And.intro hQ2 (And.intro hs2 hV)); clear hQ hQ2 hs2 hs1 hV hg1 hbB hg0 hsW hb1 hgq
  go_wp2_with fail
  rw [← HP.out]
  generalize w1.alloc (.cells #[.slice a1 n1 c1, .slice a2 n2 c2, .slice a3 n3 c3] 28) = w2 at *
  have hpw : w0.heap.size ≤ pb := by omega
  clear hpb HP hs1'
  refine Calls.mono (l01Next_ok B0 w2 sb 24 HQ.out.2.1) ?_
  rintro e3 w3 ⟨v3, rfl, hg3, x, rfl, _, hx1, hs3⟩
  have hb3 := hb2.moved hg3 (by omega)
  have hbQ3 := hbQ.moved hg3 (by omega)
  have hQ3 : Pres3 (fun k => w0.heap.size ≤ k ∧ k ≠ pb) w3 (.slice a1 n1 c1) (.slice a2 n2 c2) (.slice a3 n3 c3) Q := HQ.out.1.mono (fun k hk hlt => ⟨hk, Nat.lt_of_lt_of_le hlt hg3.size, hg3.block k hlt (fun e => by have := Option.some.inj e; omega)⟩)
  have hgw3 := grown_trans hgw2 hg3
  have hV := HQ.out.2.2
  have hsz3 := hgw3.size
  have hp3 := hbQ3.1
  have HQ := Lib.hid (And.intro hQ3 (And.intro hs3 hV)); clear hQ3 hs3 hV hg3 hbQ hb2 hgw2 hx1
  obtain ⟨q0, q1, q2, q3, q4⟩ := id hbQ3
  by_cases hx0 : x = 0
  · have hxb : (x == 0) = true := by simp [hx0]
    clear hx0
    go_wp2_with fail
    refine Calls.mono (l07BendL_ok B0 w3 sb _ Q _ (by omega) HQ.out.2.1 ⟨_, _, _, rfl, HQ.out.1⟩ HQ.out.2.2) ?_
    rintro e4 w4 ⟨v4, rfl, hg4, ⟨uo, up, uc, R, rfl, hRl, hR, hRo⟩, hs4⟩
    obtain ⟨y1, m1, k1, hy1⟩ : ∃ a n c, uo = .slice a n c := by obtain ⟨a, c, e, _⟩ := hR.o.shape; exact ⟨_, _, _, e⟩
    obtain ⟨y2, m2, k2, hy2⟩ : ∃ a n c, up = .slice a n c := by obtain ⟨a, c, e, _⟩ := Sl.shape hR.p; exact ⟨_, _, _, e⟩
    obtain ⟨y3, m3, k3, hy3⟩ : ∃ a n c, uc = .slice a n c := by obtain ⟨a, c, e, _⟩ := Sl.shape hR.c; exact ⟨_, _, _, e⟩
    subst hy1 hy2 hy3
    have hb4 := hb3.moved hg4 (by omega)
    have hgw4 := grown_trans hgw3 hg4
    obtain ⟨b0, b1, b2, b3, b4⟩ := id hb4
    have hZ := hb4.all (.slice y1 m1 k1) (.slice y2 m2 k2) (.slice y3 m3 k3)
    obtain ⟨-, z0, z1, z2, -⟩ := id hZ
    have HF := Lib.hid (And.intro hgw4 (And.intro hs4 (And.intro hR (And.intro hRl (HLQ.out.le HQ.out.2.2 hRo))))); clear hZ hgw4 hs4 hR hRl hb4 hg4 hRo
    go_wp2_with fail
    refine bodyPost_ret (v := .agg #[.slice y1 m1 k1, .slice y2 m2 k2, .slice y3 m3 k3]) (by simp [results, Tryz.results81, go_sem, z0, z1, z2]) rfl ?_
    exact a_ret HF.out.1 (br := w.heap.size) (Nat.le_refl _) (fun k hk _ => by have hk : w3.heap.size ≤ k := hk; exact ⟨by omega, by omega⟩) HF.out.2.1 hB0 HF.out.2.2.2.1 HF.out.2.2.1 HF.out.2.2.2.2
  have hxb : (x == 0) = false := by simp [hx0]
  by_cases hx12 : x = 1 ∨ x = 2
  · rcases hx12 with rfl | rfl
    all_goals
      clear hx0
      go_wp2_with fail
      refine Calls.mono (l07TurnL_ok B0 w3 sb _ Q _ (by omega) HQ.out.2.1 ⟨_, _, _, rfl, HQ.out.1⟩ HQ.out.2.2) ?_
      rintro e4 w4 ⟨v4, rfl, hg4, ⟨uo, up, uc, R, rfl, hRl, hR, hRo⟩, hs4⟩
      obtain ⟨y1, m1, k1, hy1⟩ : ∃ a n c, uo = .slice a n c := by obtain ⟨a, c, e, _⟩ := hR.o.shape; exact ⟨_, _, _, e⟩
      obtain ⟨y2, m2, k2, hy2⟩ : ∃ a n c, up = .slice a n c := by obtain ⟨a, c, e, _⟩ := Sl.shape hR.p; exact ⟨_, _, _, e⟩
      obtain ⟨y3, m3, k3, hy3⟩ : ∃ a n c, uc = .slice a n c := by obtain ⟨a, c, e, _⟩ := Sl.shape hR.c; exact ⟨_, _, _, e⟩
      subst hy1 hy2 hy3
      have hb4 := hb3.moved hg4 (by omega)
      have hgw4 := grown_trans hgw3 hg4
      obtain ⟨b0, b1, b2, b3, b4⟩ := id hb4
      have hZ := hb4.all (.slice y1 m1 k1) (.slice y2 m2 k2) (.slice y3 m3 k3)
      obtain ⟨-, z0, z1, z2, -⟩ := id hZ
      have HF := Lib.hid (And.intro hgw4 (And.intro hs4 (And.intro hR (And.intro hRl (HLQ.out.le HQ.out.2.2 hRo))))); clear hZ hgw4 hs4 hR hRl hb4 hg4 hRo
      go_wp2_with fail
      refine bodyPost_ret (v := .agg #[.slice y1 m1 k1, .slice y2 m2 k2, .slice y3 m3 k3]) (by simp [results, Tryz.results81, go_sem, z0, z1, z2]) rfl ?_
      exact a_ret HF.out.1 (br := w.heap.size) (Nat.le_refl _) (fun k hk _ => by have hk : w3.heap.size ≤ k := hk; exact ⟨by omega, by omega⟩) HF.out.2.1 hB0 HF.out.2.2.2.1 HF.out.2.2.1 HF.out.2.2.2.2
  · have hxb1 : (x == 1) = false := by simp; omega
    have hxb2 : (x == 2) = false := by simp; omega
    clear hx12 hx0
    obtain ⟨b0, b1, b2, b3, b4⟩ := id hb3
    have hZ := hb3.all (.slice a1 n1 c1) (.slice a2 n2 c2) (.slice a3 n3 c3)
    obtain ⟨-, z0, z1, z2, -⟩ := id hZ
    have HF := Lib.hid hgw3; clear hZ hgw3 hb3
    go_wp2_with fail
    refine bodyPost_ret (v := .agg #[.slice a1 n1 c1, .slice a2 n2 c2, .slice a3 n3 c3]) (by simp [results, Tryz.results81, go_sem, z0, z1, z2]) rfl ?_
    exact a_ret HF.out (br := w.heap.size) (Nat.le_refl _) (fun k hk _ => ⟨by omega, by omega⟩) HQ.out.2.1 hB0 (by have := HQ.out.2.2.n6; omega) HQ.out.1 HLQ.out

theorem l07Draw_ok (B0 : Nat) (w : World) (sb : Nat) (limit : Int) (hB0 : B0 ≤ w.heap.size) (hs : Src B0 w sb) :
    Calls Tryz.prog 81 #[.pointer (some ⟨sb, 0, none⟩), .int .i64 limit] w (Mut w (some sb) (DrawR B0 sb (PresA 7 w.heap.size))) :=
  Calls.mono (l07DrawL_ok B0 w sb limit hB0 hs) (fun _ _ ⟨v, h1, h2, ⟨vo, vp, vc, Q, h3, h4, h5, _⟩, h6⟩ => ⟨v, h1, h2, ⟨vo, vp, vc, Q, h3, h4, h5⟩, h6⟩)

end Go.Proofs.YtldheeicjnncoaaGreat
namespace Go.Proofs.YtldheeicjnncoaaGreat
open Go.RowKit
attribute [local go_sem ↓] Go.wp_at_zero Go.wp_at_succ

theorem Pres3.keptB {B : Nat} {r : Option Nat} {w w' : World} {vo vp vc : Value} {P : Pr} (h : Pres3 (From B) w vo vp vc P) (hg : w.grownBy w' r) (hr : ∀ k, r = some k → k < B) : Pres3 (From B) w' vo vp vc P :=
  h.mono (frame_of hg (fun k hk _ => ⟨hk, fun e => by have := hr k e; have hk : B ≤ k := hk; omega⟩))
theorem Pres3.low {B B' : Nat} {w : World} {vo vp vc : Value} {P : Pr} (h : Pres3 (From B) w vo vp vc P) (hB : B' ≤ B) : Pres3 (From B') w vo vp vc P :=
  h.mono (fun _ hk hlt => ⟨Nat.le_trans hB hk, hlt, rfl⟩)

end Go.Proofs.YtldheeicjnncoaaGreat
namespace Go.Proofs.YtldheeicjnncoaaGreat
open Go.RowKit
attribute [local go_sem ↓] Go.wp_at_zero Go.wp_at_succ

set_option maxRecDepth 100000 in
set_option maxHeartbeats 8000000 in
theorem l01From_ok (w : World) (cv : Value) (bs : List Int) (S : Nat → Prop) (hb : Bytes S w cv bs) :
    Calls Tryz.prog 80 #[cv] w (Ret w fun w' v => v = .pointer (some ⟨w.heap.size, 0, none⟩) ∧ Src (w.heap.size + 1) w' w.heap.size) := by
  obtain ⟨a, cap, rfl, _, hlen⟩ := Sl.shape hb
  have hbA := Box3.made w 163 (.slice a bs.length cap) (.int .i64 0) (.int .i64 76001)
  have hgA : Ext w (w.alloc (.cells #[.slice a bs.length cap, .int .i64 0, .int .i64 76001] 163)) := World.grownBy_alloc _ _ _
  go_enter Tryz.func80, Tryz.ntmps80
  go_wp2_with fail
  generalize w.alloc (.cells #[.slice a bs.length cap, .int .i64 0, .int .i64 76001] 163) = w0 at *
  go_loopw [4] (fun iv wr => ∃ (i seed : Nat), iv = .int .i64 i ∧ i ≤ bs.length ∧ seed < 2147483647 ∧ Ext w wr ∧ Box3 wr w.heap.size (.slice a bs.length cap) (.int .i64 0) (.int .i64 seed)) (fun iv _ => bs.length - (intOf iv).toNat)
  case atStart => exact ⟨0, 76001, rfl, by omega, by omega, hgA, hbA⟩
  case round =>
    clear hbA hgA
    obtain ⟨i, seed, rfl, hi, hs, hg, hB⟩ := hrel
    by_cases hlt : i < bs.length
    · by_cases h64 : i < 64
      · obtain ⟨b, off, rfl, hbS, hbl, hcb, hx0, hx1⟩ := Bytes.at hb i hlt
        have hcr := hg.cell hcb (by simp)
        generalize gt bs i = x at hcb hcr hx0 hx1
        have hli : (i : Int) < (bs.length : Nat) := by omega
        have h6i : (i : Int) < 64 := by omega
        obtain ⟨s2, hs2⟩ : ∃ s2 : Nat, ((seed : Int) * 71 + x) % 2147483647 = (s2 : Int) ∧ s2 < 2147483647 := ⟨(((seed : Int) * 71 + x) % 2147483647).toNat, by omega, by omega⟩
        have hBs := (hB.put (.int .i64 (s2 : Nat))).2.2
        have hgs := grown_set wr w.heap.size 2 (.int .i64 (s2 : Nat))
        have hgn : Ext w (wr.setCell ⟨w.heap.size, 2, none⟩ (.int .i64 (s2 : Nat))) := grown_own hg hgs (fun j hj hlt => by have := Option.some.inj hj; omega)
        have hBd := hBs.ext (grown_drew (wr.setCell ⟨w.heap.size, 2, none⟩ (.int .i64 (s2 : Nat))) none)
        have hgd := grown_trans hgn (grown_drew (wr.setCell ⟨w.heap.size, 2, none⟩ (.int .i64 (s2 : Nat))) none)
        have hw1 : IntKind.i64.wrap ((seed : Int) * 71) = (seed : Int) * 71 := IntWalk.i64_in _ (by omega)
        have hw2 : IntKind.i64.wrap ((seed : Int) * 71 + x) = (seed : Int) * 71 + x := IntWalk.i64_in _ (by omega)
        have hw0 : IntKind.i64.wrap x = x := IntWalk.i64_in _ (by omega)
        have hrem : ((seed : Int) * 71 + x).tmod 2147483647 = (s2 : Int) := by rw [Int.tmod_eq_emod_of_nonneg (by omega)]; exact hs2.1
        obtain ⟨h0, h1, h2, h3, h4⟩ := id hB
        have c0 : wr.drew.cell? ⟨w.heap.size, 2, none⟩ = some (.int .i64 seed) := h3
        have c1 : wr.drew.cell? ⟨b, off + i, none⟩ = some (.int .u8 x) := hcr
        have c2 : w.heap.size < wr.drew.heap.size := h0
        have c3 := h4
        have HQ := Lib.hid (And.intro hgd (And.intro hBd (And.intro hs2.2 hb))); clear hgd hBd hs2 hb hgn hgs hBs hB hg h0 h1 h2 h3 hcb hcr
        go_wp2
        go_still_tail 15, (by kernel_rfl)
        change wpList _ _ _ _ _ wr.drew
        go_wp2
        go_roundw
        case rel => exact ⟨i + 1, s2, by go_num, by omega, HQ.out.2.2.1, HQ.out.1, HQ.out.2.1⟩
        case measure => simp [intOf]; omega
      · have hli : (i : Int) < (bs.length : Nat) := by omega
        have h6i : ¬ (i : Int) < 64 := by omega
        have HQ := Lib.hid (And.intro hg hB); clear hg hB
        go_wp2
        go_ret
        exact ⟨_, rfl, HQ.out.1, rfl, _, 0, seed, bs, HQ.out.2, Bytes.mono hb (fun k _ hlt => ⟨⟨by omega, by omega⟩, Nat.lt_of_lt_of_le hlt HQ.out.1.size, HQ.out.1.block k hlt (by simp)⟩), by omega, hs, by omega⟩
    · have hli : ¬ (i : Int) < (bs.length : Nat) := by omega
      have HQ := Lib.hid (And.intro hg hB); clear hg hB
      go_wp2
      go_ret
      exact ⟨_, rfl, HQ.out.1, rfl, _, 0, seed, bs, HQ.out.2, Bytes.mono hb (fun k _ hlt => ⟨⟨by omega, by omega⟩, Nat.lt_of_lt_of_le hlt HQ.out.1.size, HQ.out.1.block k hlt (by simp)⟩), by omega, hs, by omega⟩

end Go.Proofs.YtldheeicjnncoaaGreat
namespace Go.Proofs.YtldheeicjnncoaaGreat
open Go.RowKit
attribute [local go_sem ↓] Go.wp_at_zero Go.wp_at_succ

/-- a presentation and a number -/
def PresI (M B : Nat) (w' : World) (v : Value) : Prop := ∃ (vo vp vc : Value) (x : Int) (P : Pr), v = .tuple #[.agg #[vo, vp, vc], .int .i64 x] ∧ P.orders.length ≤ M ∧ Pres3 (From B) w' vo vp vc P

set_option maxRecDepth 100000 in
set_option maxHeartbeats 8000000 in
theorem l08DrawIndex_ok (B0 : Nat) (w : World) (sb : Nat) (pv : Value) (Q : Pr) (F : Nat → Prop) (hs : Src B0 w sb) (hp : PresV F w pv Q) (_hF : ∀ k, F k → k ≠ sb) (hQl : Q.orders.length ≤ 7) :
    Calls Tryz.prog 82 #[.pointer (some ⟨sb, 0, none⟩), pv] w (Mut w (some sb) (DrawR B0 sb (fun _ v => ∃ x : Int, v = .int .i64 x))) := by
  have hsb := hs.lt
  obtain ⟨vo, vp, vc, rfl, h3⟩ := hp
  have hp0 := PresP.box h3 28
  obtain ⟨ao, capo, hco, _⟩ := hp0.ordAt
  have hgA : Ext w (w.alloc (.cells #[vo, vp, vc] 28)) := World.grownBy_alloc _ _ _
  have HS := Lib.hid (hs.ext hgA); clear hs h3 hp0
  go_enter Tryz.func82, Tryz.ntmps82
  go_wp2_with fail
  clear hco
  generalize w.alloc (.cells #[vo, vp, vc] 28) = w0 at *
  have hz0 := hgA.size
  refine Calls.mono (l01Next_ok B0 w0 sb 25 HS.out) ?_
  rintro e1 w1 ⟨v1, rfl, hg1, x, rfl, _, _, hs1⟩
  have hsz := hg1.size
  have hgw1 : w.grownBy w1 (some sb) := grown_trans (grown_of_ext (some sb) hgA) hg1
  have H1 := Lib.hid hs1; clear hs1
  by_cases hx : x = 0
  · subst hx
    go_wp2_with fail
    refine Calls.mono (l01Pick_ok B0 _ sb _ [-1, (Q.orders.length : Int) + 1, 9223372036854775807] _ (H1.out.ext (World.grownBy_alloc _ _ _)) (ints_litL w1 [-1, (Q.orders.length : Int) + 1, 9223372036854775807] (by simp)) (fun k hk => by have hk : k = w1.heap.size := hk; omega) (by simp) (by simp)) ?_
    rintro e2 w2 ⟨v2, rfl, hg2, i, _, rfl, hs2⟩
    have H2 := Lib.hid hs2; clear hs2
    go_wp2
    go_ret
    exact ⟨_, rfl, grown_trans hgw1 (grown_trans (grown_of_ext (some sb) (World.grownBy_alloc _ _ _)) hg2), ⟨_, rfl⟩, H2.out⟩
  · have hxb : (x == 0) = false := by simp [hx]
    clear hx
    go_wp2_with fail
    refine Calls.mono (l01Next_ok B0 w1 sb _ H1.out) ?_
    rintro e2 w2 ⟨v2, rfl, hg2, y, rfl, _, _, hs2⟩
    have H2 := Lib.hid hs2; clear hs2
    go_wp2
    go_ret
    exact ⟨_, rfl, grown_trans hgw1 hg2, ⟨_, rfl⟩, H2.out⟩

set_option maxRecDepth 100000 in
set_option maxHeartbeats 8000000 in
theorem DrawHeadPresentation_ok (w : World) (cv : Value) (bs : List Int) (S : Nat → Prop) (hb : Bytes S w cv bs) :
    Calls Tryz.prog 12 #[cv] w (Ret w (PresI 7 w.heap.size)) := by
  obtain ⟨a, cap, rfl, _, _⟩ := Sl.shape hb
  have hbB := Box3.made w 28 (.slice none 0 0) (.slice none 0 0) (.slice none 0 0)
  have hg0 : Ext w (w.alloc (.cells #[.slice none 0 0, .slice none 0 0, .slice none 0 0] 28)) := World.grownBy_alloc _ _ _
  have hs0 : (w.alloc (.cells #[.slice none 0 0, .slice none 0 0, .slice none 0 0] 28)).heap.size = w.heap.size + 1 := by simp
  have hb0 := Bytes.ext hb hg0
  go_enter Tryz.func12, Tryz.ntmps12
  go_wp2_with fail
  generalize w.alloc (.cells #[.slice none 0 0, .slice none 0 0, .slice none 0 0] 28) = w0 at *
  have hs00 : w.heap.size + 1 ≤ w0.heap.size := by omega
  clear hs0
  refine Calls.mono (l01From_ok w0 _ bs S hb0) ?_
  rintro e0 wS ⟨v0, rfl, hgS, rfl, hsS⟩
  have hzS : w0.heap.size + 1 ≤ wS.heap.size := by have := hsS.lt; omega
  have hbS := hbB.ext hgS
  obtain ⟨sb, hsb⟩ : ∃ sb, sb = w0.heap.size := ⟨_, rfl⟩
  rw [← hsb] at hsS
  have hsb1 : w.heap.size + 1 ≤ sb ∧ sb + 1 ≤ wS.heap.size := by omega
  have hgw0 := grown_trans hg0 hgS
  have HSB := Lib.hid hsb
  clear hbB hb0 hg0 hgS hzS hs00
  go_wp2_with fail
  rw [← HSB.out]
  refine Calls.mono (l07Draw_ok (sb + 1) wS sb 128 (by omega) (by rw [HSB.out]; rw [HSB.out] at hsS; exact hsS)) ?_
  rintro e1 w1 ⟨v1, rfl, hg1, ⟨vo, vp, vc, Q, rfl, hQl, hQ⟩, hs1⟩
  clear hsb
  obtain ⟨a1, n1, c1, hy1⟩ : ∃ a n c, vo = .slice a n c := by obtain ⟨a, c, e, _⟩ := hQ.o.shape; exact ⟨_, _, _, e⟩
  obtain ⟨a2, n2, c2, hy2⟩ : ∃ a n c, vp = .slice a n c := by obtain ⟨a, c, e, _⟩ := Sl.shape hQ.p; exact ⟨_, _, _, e⟩
  obtain ⟨a3, n3, c3, hy3⟩ : ∃ a n c, vc = .slice a n c := by obtain ⟨a, c, e, _⟩ := Sl.shape hQ.c; exact ⟨_, _, _, e⟩
  subst hy1 hy2 hy3
  have hgq : Ext w1 (w1.alloc (.cells #[.slice a1 n1 c1, .slice a2 n2 c2, .slice a3 n3 c3] 28)) := World.grownBy_alloc _ _ _
  have hbQ := Box3.made w1 28 (.slice a1 n1 c1) (.slice a2 n2 c2) (.slice a3 n3 c3)
  obtain ⟨pb, hpb⟩ : ∃ pb, pb = w1.heap.size := ⟨_, rfl⟩
  rw [← hpb] at hbQ
  have hs1' := hg1.size
  have hQ2 := hQ.ext hgq
  have hb1 := hbS.moved hg1 (by omega)
  have hb2 := hb1.ext hgq
  have hs2 := hs1.ext hgq
  have hgw2 : Ext w (w1.alloc (.cells #[.slice a1 n1 c1, .slice a2 n2 c2, .slice a3 n3 c3] 28)) := grown_trans (grown_own hgw0 hg1 (fun j hj hlt => by have := Option.some.inj hj; omega)) hgq
  have hzq : w1.heap.size ≤ (w1.alloc (.cells #[.slice a1 n1 c1, .slice a2 n2 c2, .slice a3 n3 c3] 28)).heap.size := hgq.size
  have HP := Lib.hid hpb
  have HQ := Lib.hid (And.intro hQ2 (And.intro hs2 (And.intro hgw2 hQl))); clear hQ hQ2 hs2 hs1 hg1 hbS hb1 hgq hgw2 hQl
  obtain ⟨q0, q1, q2, q3, q4⟩ := id hbQ
  have e0 : ∀ w', NearS (w1.alloc (.cells #[.slice a1 n1 c1, .slice a2 n2 c2, .slice a3 n3 c3] 28)) sb w.heap.size w' → w'.cell? ⟨pb, 0, none⟩ = some (.slice a1 n1 c1) := fun w' h => h.cell q1 (by simp; omega) (by simp; omega)
  have e1 : ∀ w', NearS (w1.alloc (.cells #[.slice a1 n1 c1, .slice a2 n2 c2, .slice a3 n3 c3] 28)) sb w.heap.size w' → w'.cell? ⟨pb, 1, none⟩ = some (.slice a2 n2 c2) := fun w' h => h.cell q2 (by simp; omega) (by simp; omega)
  have e2 : ∀ w', NearS (w1.alloc (.cells #[.slice a1 n1 c1, .slice a2 n2 c2, .slice a3 n3 c3] 28)) sb w.heap.size w' → w'.cell? ⟨pb, 2, none⟩ = some (.slice a3 n3 c3) := fun w' h => h.cell q3 (by simp; omega) (by simp; omega)
  clear q0 q1 q2 q3 q4 hbQ
  go_wp2_with fail
  rw [← HP.out]
  generalize w1.alloc (.cells #[.slice a1 n1 c1, .slice a2 n2 c2, .slice a3 n3 c3] 28) = w2 at *
  have hpw : wS.heap.size ≤ pb := by omega
  clear hpb HP
  go_region_held3 (fun w' => NearS w2 sb w.heap.size w') (first | exact NearS.ext (grown_drew _ _) | exact NearS.of (by assumption) | exact NearS.two hg4 (grown_set3 _ _ _ _ _) | assumption)
    (first
      | (go_at_call 82; refine Calls.mono (l08DrawIndex_ok (sb + 1) w2.drew sb _ Q _ (HQ.out.2.1.ext (grown_drew _ _)) ⟨_, _, _, rfl, HQ.out.1.ext (grown_drew _ _)⟩ (fun k hk e => by have hk : wS.heap.size ≤ k := hk; omega) HQ.out.2.2.2) ?_; rintro e4 w4 ⟨v4, rfl, hg4a, ⟨xl, rfl⟩, hs4⟩; have hg4 : w2.grownBy w4 (some sb) := grown_trans (grown_of_ext (some sb) (grown_drew _ _)) hg4a; have hb4 := hb2.moved hg4 (by omega); obtain ⟨b0, b1, b2, b3, b4⟩ := id hb4))
  have hdz := (grown_drew w2 none).size
  have hZ := hb4.all (.slice a1 n1 c1) (.slice a2 n2 c2) (.slice a3 n3 c3)
  obtain ⟨-, z0, z1, z2, -⟩ := id hZ
  have hP4 := HQ.out.1.keptB hg4 (fun k hk => by have := Option.some.inj hk; omega)
  have hT := grown_set3 w4 w.heap.size (.slice a1 n1 c1) (.slice a2 n2 c2) (.slice a3 n3 c3)
  have hin : ∀ k, some w.heap.size = some k → k < wS.heap.size := fun k hk => by have := Option.some.inj hk; omega
  have hend : Ret w (PresI 7 w.heap.size) (.returned (.tuple #[.agg #[.slice a1 n1 c1, .slice a2 n2 c2, .slice a3 n3 c3], .int .i64 xl])) (((w4.setCell ⟨w.heap.size, 0, none⟩ (.slice a1 n1 c1)).setCell ⟨w.heap.size, 1, none⟩ (.slice a2 n2 c2)).setCell ⟨w.heap.size, 2, none⟩ (.slice a3 n3 c3)) :=
    ⟨_, rfl, grown_own (grown_own HQ.out.2.2.1 hg4 (fun j hj hlt => by have := Option.some.inj hj; omega)) hT (fun j hj hlt => by have := Option.some.inj hj; omega), _, _, _, xl, Q, rfl, HQ.out.2.2.2, (hP4.keptB hT hin).low (by omega)⟩
  have HE := Lib.hid hend; clear hend hT hZ hP4 HQ hg4 hg4a hb2 hb4 hs4 e0 e1 e2
  go_wp2_with fail
  refine bodyPost_ret (v := .tuple #[.agg #[.slice a1 n1 c1, .slice a2 n2 c2, .slice a3 n3 c3], .int .i64 xl]) (by simp [results, Tryz.results12, go_sem, z0, z1, z2]) rfl ?_
  exact HE.out

end Go.Proofs.YtldheeicjnncoaaGreat
namespace Go.Proofs.YtldheeicjnncoaaGreat
open Go.RowKit
attribute [local go_sem ↓] Go.wp_at_zero Go.wp_at_succ

theorem big_ok (w : World) (cv : Value) (bs : List Int) (S : Nat → Prop) (hb : Bytes S w cv bs) :
    Calls Tryz.prog 11 #[cv] w fun e w' => e = .returned (.bool (decide (4096 < bs.length))) ∧ w = w' := by
  obtain ⟨a, cap, rfl, _, hlen⟩ := Sl.shape hb
  go_enter Tryz.func11, Tryz.ntmps11
  by_cases h : 4096 < bs.length
  · have hi : (4096 : Int) < (bs.length : Nat) := by omega
    go_wp2
    go_ret
    exact ⟨ret_b (by simp [h]), rfl⟩
  · have hi : ¬ (4096 : Int) < (bs.length : Nat) := by omega
    go_wp2
    go_ret
    exact ⟨ret_b (by simp), rfl⟩

end Go.Proofs.YtldheeicjnncoaaGreat
namespace Go.Proofs.YtldheeicjnncoaaGreat
open Go.RowKit

theorem Ints.extA {S : Nat → Prop} {w w' : World} {v : Value} {xs : List Int} (h : Ints S w v xs) (hg : Ext w w') : Ints Any w' v xs := Ints.sub (Ints.ext h hg) (fun _ _ _ => trivial)
theorem Rows2.extA {S : Nat → Prop} {w w' : World} {v : Value} {xs : List (List Int)} (h : Rows2 S w v xs) (hg : Ext w w') : Rows2 Any w' v xs := Rows2.sub (Rows2.ext h hg) (fun _ _ _ => trivial)

end Go.Proofs.YtldheeicjnncoaaGreat
namespace Go.Proofs.YtldheeicjnncoaaGreat
open Go.RowKit

set_option maxHeartbeats 400000 in
theorem likeInts_ok (v1 v2 : Value) (l1 l2 : List Int) (w : World) (S1 S2 : Nat → Prop) (h1 : Ints S1 w v1 l1) (h2 : Ints S2 w v2 l2) :
    Calls Tryz.prog 59 #[v1, v2] w (Ret w fun _ v => v = .bool (eqB l1 l2)) := by
  obtain ⟨a, cap, rfl, _, _⟩ := h1.shape
  obtain ⟨a2, cap2, rfl, _, _⟩ := h2.shape
  by_cases hl : l1.length = l2.length
  · have hd : ((l1.length : Int) != (l2.length : Int)) = false := by simp [hl]
    have hl1 : l1.length ≤ l2.length ∧ l2.length ≤ l1.length := by omega
    have HL := Lib.hid hl; clear hl
    go_enter Tryz.func59, Tryz.ntmps59
    go_wp2
    go_loopw [5] (fun i wr => ∃ k : Nat, i = .int .i64 k ∧ k ≤ l1.length ∧ Ext w wr ∧ ∀ i, i < k → gt l1 i = gt l2 i) (fun i _ => l1.length - (intOf i).toNat)
    case atStart => exact ⟨0, rfl, by omega, Ext.refl _, fun i hi => by omega⟩
    case round =>
      obtain ⟨k, rfl, hk, hg, hz⟩ := hrel
      have HZ := Lib.hid hz; clear hz
      by_cases hlt : k < l1.length
      · obtain ⟨b, off, rfl, _, _, hc⟩ := Ints.at (h1.ext hg) k hlt
        obtain ⟨b2, off2, rfl, _, _, hc2⟩ := Ints.at (h2.ext hg) k (by omega)
        by_cases hx : gt l1 k = gt l2 k
        · have hb : (gt l1 k != gt l2 k) = false := by simp [hx]
          have hx2 := Lib.hid hx; clear hx
          go_wp2
          go_quiet (fail)
          go_wp2
          go_roundw
          case rel => exact ⟨k + 1, by go_num, by omega, grown_trans hg (grown_drewN _ _ _), fun i hi => by
            rcases Nat.lt_or_ge i k with h1 | h1
            · exact HZ.out i h1
            · have : i = k := by omega
              rw [this, hx2.out]⟩
          case measure => simp [intOf]; omega
        · have hb : (gt l1 k != gt l2 k) = true := by simp [hx]
          have hx2 := Lib.hid hx; clear hx
          go_wp2
          go_quiet (fail)
          go_wp2
          go_ret
          exact ret_bool (grown_trans hg (grown_drewN _ _ _)) (by rw [eqB_false_at (hx := hx2.out)])
      · go_wp2
        go_ret
        exact ret_bool hg (by rw [eqB_true.2 (ext_gt HL.out (fun i hi => HZ.out i (by omega)))])
  · have hd : ((l1.length : Int) != (l2.length : Int)) = true := by simp; omega
    have HL := Lib.hid hl; clear hl
    go_enter Tryz.func59, Tryz.ntmps59
    go_wp2
    go_ret
    exact ret_bool (Ext.refl _) (by rw [eqB_false.2 (fun h => HL.out (by rw [h]))])

set_option maxRecDepth 100000 in
set_option maxHeartbeats 2000000 in
theorem like29_ok (v1 v2 : Value) (l1 l2 : List (List Int)) (w : World) (S1 S2 : Nat → Prop) (h1 : Rows2 S1 w v1 l1) (h2 : Rows2 S2 w v2 l2) :
    Calls Tryz.prog 27 #[v1, v2] w (Ret w fun _ v => v = .bool (eqB l1 l2)) := by
  obtain ⟨a, cap, rfl, _, _⟩ := Sl.shape h1
  obtain ⟨a2, cap2, rfl, _, _⟩ := Sl.shape h2
  by_cases hl : l1.length = l2.length
  · have hd : ((l1.length : Int) != (l2.length : Int)) = false := by simp [hl]
    have hl1 : l1.length ≤ l2.length ∧ l2.length ≤ l1.length := by omega
    have HL := Lib.hid hl; clear hl
    go_enter Tryz.func27, Tryz.ntmps27
    go_wp2
    go_loopw [5] (fun i wr => ∃ k : Nat, i = .int .i64 k ∧ k ≤ l1.length ∧ Ext w wr ∧ ∀ i, i < k → gt l1 i = gt l2 i) (fun i _ => l1.length - (intOf i).toNat)
    case atStart => exact ⟨0, rfl, by omega, Ext.refl _, fun i hi => by omega⟩
    case round =>
      obtain ⟨k, rfl, hk, hg, hz⟩ := hrel
      have HZ := Lib.hid hz; clear hz
      by_cases hlt : k < l1.length
      · obtain ⟨b, off, x1, c1, rfl, _, _, hc, hi1⟩ := Rows2.at (Rows2.ext h1 hg) k hlt
        obtain ⟨b2, off2, x2, c2, rfl, _, _, hc2, hi2⟩ := Rows2.at (Rows2.ext h2 hg) k (by omega)
        have e1 : ∀ w', Ext wr w' → w'.cell? ⟨b, off + k, none⟩ = some (.slice x1 (gt l1 k).length c1) := fun w' h => h.cell hc (by simp)
        have e2 : ∀ w', Ext wr w' → w'.cell? ⟨b2, off2 + k, none⟩ = some (.slice x2 (gt l2 k).length c2) := fun w' h => h.cell hc2 (by simp)
        clear hc hc2
        have hlt2 : k < l2.length := by omega
        go_wp2
        cases hx : eqB (gt l1 k) (gt l2 k) with
        | true =>
          have hx2 := Lib.hid hx
          go_region_held3 (fun w' => Ext wr w') (first | exact grown_drew _ _ | assumption)
            (first
              | (go_at_call 59; refine Calls.mono (Calls.rel (w0 := wr) (by assumption) (likeInts_ok _ _ _ _ _ Any Any ((Ints.extA hi1 (by assumption))) (Ints.extA hi2 (by assumption)))) ?_; rintro eA wA ⟨vA, rfl, hgA, hsA, rfl⟩))
          clear e1 e2
          go_wp2
          go_roundw
          case rel => exact ⟨k + 1, by go_num, by omega, grown_trans hg hgA, fun i hi => by
            rcases Nat.lt_or_ge i k with h1 | h1
            · exact HZ.out i h1
            · have : i = k := by omega
              rw [this]; exact eqB_true.1 hx2.out⟩
          case measure => simp [intOf]; omega
        | false =>
          have hx2 := Lib.hid hx
          go_region_held3 (fun w' => Ext wr w') (first | exact grown_drew _ _ | assumption)
            (first
              | (go_at_call 59; refine Calls.mono (Calls.rel (w0 := wr) (by assumption) (likeInts_ok _ _ _ _ _ Any Any (Ints.extA hi1 (by assumption)) (Ints.extA hi2 (by assumption)))) ?_; rintro eA wA ⟨vA, rfl, hgA, hsA, rfl⟩))
          clear e1 e2
          go_wp2
          go_ret
          exact ret_bool (grown_trans hg hgA) (by rw [eqB_false_at (hx := eqB_false.1 hx2.out)])
      · go_wp2
        go_ret
        exact ret_bool hg (by rw [eqB_true.2 (ext_gt HL.out (fun i hi => HZ.out i (by omega)))])
  · have hd : ((l1.length : Int) != (l2.length : Int)) = true := by simp; omega
    have HL := Lib.hid hl; clear hl
    go_enter Tryz.func27, Tryz.ntmps27
    go_wp2
    go_ret
    exact ret_bool (Ext.refl _) (by rw [eqB_false.2 (fun e => HL.out (by rw [e]))])

set_option maxRecDepth 100000 in
set_option maxHeartbeats 2000000 in
theorem like39_ok (v1 v2 : Value) (l1 l2 : List (List (List Int))) (w : World) (S1 S2 : Nat → Prop) (h1 : Rows3 S1 w v1 l1) (h2 : Rows3 S2 w v2 l2) :
    Calls Tryz.prog 35 #[v1, v2] w (Ret w fun _ v => v = .bool (eqB l1 l2)) := by
  obtain ⟨a, cap, rfl, _, _⟩ := Sl.shape h1
  obtain ⟨a2, cap2, rfl, _, _⟩ := Sl.shape h2
  by_cases hl : l1.length = l2.length
  · have hd : ((l1.length : Int) != (l2.length : Int)) = false := by simp [hl]
    have hl1 : l1.length ≤ l2.length ∧ l2.length ≤ l1.length := by omega
    have HL := Lib.hid hl; clear hl
    go_enter Tryz.func35, Tryz.ntmps35
    go_wp2
    go_loopw [5] (fun i wr => ∃ k : Nat, i = .int .i64 k ∧ k ≤ l1.length ∧ Ext w wr ∧ ∀ i, i < k → gt l1 i = gt l2 i) (fun i _ => l1.length - (intOf i).toNat)
    case atStart => exact ⟨0, rfl, by omega, Ext.refl _, fun i hi => by omega⟩
    case round =>
      obtain ⟨k, rfl, hk, hg, hz⟩ := hrel
      have HZ := Lib.hid hz; clear hz
      by_cases hlt : k < l1.length
      · obtain ⟨b, off, x1, c1, rfl, _, _, hc, hi1⟩ := Rows3.at (Rows3.ext h1 hg) k hlt
        obtain ⟨b2, off2, x2, c2, rfl, _, _, hc2, hi2⟩ := Rows3.at (Rows3.ext h2 hg) k (by omega)
        have e1 : ∀ w', Ext wr w' → w'.cell? ⟨b, off + k, none⟩ = some (.slice x1 (gt l1 k).length c1) := fun w' h => h.cell hc (by simp)
        have e2 : ∀ w', Ext wr w' → w'.cell? ⟨b2, off2 + k, none⟩ = some (.slice x2 (gt l2 k).length c2) := fun w' h => h.cell hc2 (by simp)
        clear hc hc2
        have hlt2 : k < l2.length := by omega
        go_wp2
        cases hx : eqB (gt l1 k) (gt l2 k) with
        | true =>
          have hx2 := Lib.hid hx
          go_region_held3 (fun w' => Ext wr w') (first | exact grown_drew _ _ | assumption)
            (first
              | (go_at_call 27; refine Calls.mono (Calls.rel (w0 := wr) (by assumption) (like29_ok _ _ _ _ _ Any Any ((Rows2.extA hi1 (by assumption))) (Rows2.extA hi2 (by assumption)))) ?_; rintro eA wA ⟨vA, rfl, hgA, hsA, rfl⟩))
          clear e1 e2
          go_wp2
          go_roundw
          case rel => exact ⟨k + 1, by go_num, by omega, grown_trans hg hgA, fun i hi => by
            rcases Nat.lt_or_ge i k with h1 | h1
            · exact HZ.out i h1
            · have : i = k := by omega
              rw [this]; exact eqB_true.1 hx2.out⟩
          case measure => simp [intOf]; omega
        | false =>
          have hx2 := Lib.hid hx
          go_region_held3 (fun w' => Ext wr w') (first | exact grown_drew _ _ | assumption)
            (first
              | (go_at_call 27; refine Calls.mono (Calls.rel (w0 := wr) (by assumption) (like29_ok _ _ _ _ _ Any Any (Rows2.extA hi1 (by assumption)) (Rows2.extA hi2 (by assumption)))) ?_; rintro eA wA ⟨vA, rfl, hgA, hsA, rfl⟩))
          clear e1 e2
          go_wp2
          go_ret
          exact ret_bool (grown_trans hg hgA) (by rw [eqB_false_at (hx := eqB_false.1 hx2.out)])
      · go_wp2
        go_ret
        exact ret_bool hg (by rw [eqB_true.2 (ext_gt HL.out (fun i hi => HZ.out i (by omega)))])
  · have hd : ((l1.length : Int) != (l2.length : Int)) = true := by simp; omega
    have HL := Lib.hid hl; clear hl
    go_enter Tryz.func35, Tryz.ntmps35
    go_wp2
    go_ret
    exact ret_bool (Ext.refl _) (by rw [eqB_false.2 (fun e => HL.out (by rw [e]))])

end Go.Proofs.YtldheeicjnncoaaGreat
namespace Go.Proofs.YtldheeicjnncoaaGreat
open Go.RowKit

set_option maxRecDepth 100000 in
set_option maxHeartbeats 2000000 in
theorem likeP9_ok (v1 v2 : Value) (P : Pr) (w : World) (S1 S2 : Nat → Prop) (h1 : PresV S1 w v1 P) (h2 : PresV S2 w v2 P) :
    Calls Tryz.prog 15 #[v1, v2] w (Ret w fun _ v => v = .bool true) := by
  obtain ⟨vo, vp, vc, rfl, h3⟩ := h1
  obtain ⟨uo, up, uc, rfl, k3⟩ := h2
  have hg0 : Ext w ((w.alloc (.cells #[vo, vp, vc] 28)).alloc (.cells #[uo, up, uc] 28)) := grown_trans (World.grownBy_alloc _ _ _) (World.grownBy_alloc _ _ _)
  have hs1 : (w.alloc (.cells #[vo, vp, vc] 28)).heap.size = w.heap.size + 1 := by simp
  have b1 := (Box3.made w 28 vo vp vc).ext (World.grownBy_alloc _ (.cells #[uo, up, uc] 28) none)
  have b2 := Box3.made (w.alloc (.cells #[vo, vp, vc] 28)) 28 uo up uc
  rw [hs1] at b2
  have HB := Lib.hid (And.intro b1 b2); clear b1 b2 hs1
  go_enter Tryz.func15, Tryz.ntmps15
  go_wp2_with fail
  generalize (w.alloc (.cells #[vo, vp, vc] 28)).alloc (.cells #[uo, up, uc] 28) = w0 at *
  refine Calls.mono (likeInts_ok _ _ _ _ _ S1 S2 (h3.o.ext hg0) (k3.o.ext hg0)) ?_
  rintro eA wA ⟨vA, rfl, hgA, rfl⟩
  have hgwA := grown_trans hg0 hgA
  obtain ⟨_, a0, a1, a2, _⟩ := HB.out.1.ext hgA
  obtain ⟨_, c0, c1, c2, _⟩ := HB.out.2.ext hgA
  have e1 : eqB P.orders P.orders = true := eqB_true.2 rfl
  go_wp2_with fail
  clear a0 a1 a2 c0 c1 c2 e1
  refine Calls.mono (like29_ok _ _ _ _ _ S1 S2 (Rows2.ext h3.p hgwA) (Rows2.ext k3.p hgwA)) ?_
  rintro eB wB ⟨vB, rfl, hgB, rfl⟩
  have hgwB := grown_trans hgwA hgB
  obtain ⟨_, a0, a1, a2, _⟩ := HB.out.1.ext (grown_trans hgA hgB)
  obtain ⟨_, c0, c1, c2, _⟩ := HB.out.2.ext (grown_trans hgA hgB)
  have e1 : eqB P.powers P.powers = true := eqB_true.2 rfl
  go_wp2_with fail
  clear a0 a1 a2 c0 c1 c2 e1
  refine Calls.mono (like39_ok _ _ _ _ _ S1 S2 (Rows3.ext h3.c hgwB) (Rows3.ext k3.c hgwB)) ?_
  rintro eC wC ⟨vC, rfl, hgC, rfl⟩
  have e1 : eqB P.conj P.conj = true := eqB_true.2 rfl
  go_wp2
  go_ret
  exact ⟨_, rfl, grown_trans hgwB hgC, rfl⟩

end Go.Proofs.YtldheeicjnncoaaGreat
namespace Go.Proofs.YtldheeicjnncoaaGreat
open Go.RowKit

set_option maxRecDepth 100000 in
set_option maxHeartbeats 2000000 in
theorem unit9_ok (n i : Nat) (w : World) (hi : i < n) (hn : n ≤ 1000) :
    Calls Tryz.prog 73 #[.int .i64 (n : Int), .int .i64 (i : Int)] w (Ret w fun w' v => Own w.heap.size w' v (unitV n i)) := by
  go_enter Tryz.func73, Tryz.ntmps73
  go_wp2_with (at_make; refine wp_make_ints rfl _ _ rfl w.heap.size n w.heap.size rfl _ rfl rfl rfl (by omega) (Nat.le_refl _) ?_; intro w1 ho1 hg1 _; have hc1 := ho1.cell i (by simpa using hi); have hf1 := ho1.frozen i)
  go_ret
  obtain ⟨h1, h2⟩ := ho1.store i 1
  exact ⟨_, rfl, grown_own hg1 h2 (fun j hj hlt => by cases hj; omega), h1⟩

end Go.Proofs.YtldheeicjnncoaaGreat
namespace Go.Proofs.YtldheeicjnncoaaGreat
open Go.RowKit

set_option maxRecDepth 100000 in
set_option maxHeartbeats 2000000 in
theorem units9F_ok (n f : Nat) (w : World) (hf : f ≤ n) (hn : n ≤ 1000) :
    Calls Tryz.prog 17 #[.int .i64 (n : Int), .int .i64 (f : Int)] w (Ret w fun w' v => RowsO w.heap.size w' v ((gensOf n).drop f)) := by
  go_enter Tryz.func17, Tryz.ntmps17
  go_wp2
  go_loopw [5, 6] (fun ov iv wr => ∃ (i : Nat) (v5 : Value), v5 = ov ∧ iv = .int .i64 (i : Int) ∧ f ≤ i ∧ i ≤ n ∧ Ext w wr ∧ RowsO w.heap.size wr v5 (((gensOf n).drop f).take (i - f))) (fun _ iv _ => n - (intOf iv).toNat)
  case atStart => exact ⟨f, _, rfl, rfl, Nat.le_refl _, hf, World.grownBy_alloc _ _ _, by rw [Nat.sub_self, List.take_zero]; exact ⟨[], fun _ _ => False, rfl, World.ownsRow_lit w #[] 0 (Nat.le_refl _) (by decide) rfl, by simp, by simp, by simp⟩⟩
  case round =>
    obtain ⟨i, v5, rfl, rfl, hfi, hi, hg, hA⟩ := hrel
    obtain ⟨wo, rfl⟩ : ∃ wo : World, wo = wr := ⟨_, rfl⟩
    have hgl : (gensOf n).length = n := by unfold gensOf; rw [List.length_map, List.length_range]
    by_cases hlt : i < n
    · have hlt' : (i : Int) < n := by omega
      have hst : ((gensOf n).drop f).take (i + 1 - f) = ((gensOf n).drop f).take (i - f) ++ [unitV n i] := by
        rw [show i + 1 - f = (i - f) + 1 by omega, take_succ_gt _ (i - f) (by rw [List.length_drop, hgl]; omega)]
        have e : gt ((gensOf n).drop f) (i - f) = gt (gensOf n) i := by simp [gt, List.getElem?_drop, show f + (i - f) = i by omega]
        rw [e]
        unfold gensOf
        rw [gt_map _ _ _ (by rw [List.length_range]; exact hlt)]
        simp [gt, hlt]
      have hul : (unitV n i).length = n := by unfold unitV; simp
      have hll : (((gensOf n).drop f).take (i - f)).length ≤ 1000000 := by rw [List.length_take]; omega
      have HA := Lib.hid (And.intro hA (And.intro hst (And.intro hul (And.intro hll hg.size)))); clear hA hst hul hll hgl
      go_wp2_with fail
      refine Calls.mono (unit9_ok n i wo hlt hn) ?_
      rintro e3 w3 ⟨v3, rfl, hg3, hO⟩
      have hOI : OwnIn (From wo.heap.size) w3 v3 (unitV n i) := OwnIn.of hO (by rw [HA.out.2.2.1]; omega) (fun k h1 _ => h1)
      obtain ⟨ga, gc, rfl, _, _⟩ := hOI.ints.shape
      go_wp2_with (first | (at_builtin; refine wp_app_row rfl _ _ rfl w.heap.size wo w3 v5 _ (((gensOf n).drop f).take (i - f)) (unitV n i) rfl HA.out.1 hg3 hOI rfl rfl HA.out.2.2.2.1 HA.out.2.2.2.2 ?_; intro v8 w8 hO8 hg8 _) | fail)
      have hgn8 : Ext w w8 := grown_own hg hg8 (fun j hj hlt => by have := (HA.out.1.lt j hj).1; omega)
      rw [← HA.out.2.1] at hO8
      go_roundw
      case rel => exact ⟨i + 1, v8, rfl, by go_num, by omega, by omega, hgn8, hO8⟩
      case measure => simp [intOf]; omega
    · have hie : i = n := by omega
      have hfin : RowsO w.heap.size wo v5 ((gensOf n).drop f) := by
        have e : ((gensOf n).drop f).take (i - f) = (gensOf n).drop f := List.take_of_length_le (by rw [List.length_drop]; omega)
        rw [e] at hA; exact hA
      have hnl : ¬ (i : Int) < (n : Int) := by omega
      go_wp2
      go_ret
      exact ⟨_, rfl, hg, hfin⟩

end Go.Proofs.YtldheeicjnncoaaGreat
namespace Go.Proofs.YtldheeicjnncoaaGreat
open Go.RowKit

set_option maxRecDepth 100000 in
set_option maxHeartbeats 2000000 in
theorem sOrder_ok (P : Pr) (hr : rconsB P = true) (w : World) (pv : Value) (Sp : Nat → Prop) (hpv : PresV Sp w pv P) :
    Calls Tryz.prog 97 #[pv] w (Ret w fun _ v => v = .tuple #[.int .i64 (ordP P), .int .i64 0]) := by
  have G := grp_of_r hr
  have hP := G.v
  obtain ⟨vo, vp, vc, rfl, h3⟩ := hpv
  have hp0 := PresP.box h3 28
  have hg0 : Ext w (w.alloc (.cells #[vo, vp, vc] 28)) := World.grownBy_alloc _ _ _
  obtain ⟨vo6, vp6, vc6, _, _, hc0, hc1, hc2, h36⟩ := hp0.at
  simp only [Nat.zero_add] at hc1 hc2
  have hE := sIsPresentation_ok (w.alloc (.cells #[vo, vp, vc] 28)) (.agg #[vo6, vp6, vc6]) P Any ⟨_, _, _, rfl, h36⟩
  have hv := validB_true hP
  rw [hv] at hE
  have hbx : ∀ w', Ext (w.alloc (.cells #[vo, vp, vc] 28)) w' → w'.cell? ⟨w.heap.size, 0, none⟩ = some vo6 := fun w' h => h.cell hc0 (by simp)
  have HB := Lib.hid hbx; clear hbx hv
  go_enter Tryz.func97, Tryz.ntmps97
  go_wp2_with fail
  clear hc0 hc1 hc2
  generalize w.alloc (.cells #[vo, vp, vc] 28) = w0 at *
  refine Calls.mono hE ?_
  rintro e1 w1 ⟨v1, rfl, hg1, rfl⟩
  clear hE
  have hb0 := HB.out w1 hg1
  have hob : ∀ i, i < P.orders.length → 1 ≤ gt P.orders i ∧ gt P.orders i ≤ 7 := fun i hi => by have := hP.ord7 i hi; omega
  have hpr := l07Product_ok w1 vo6 P.orders Any (h36.o.ext hg1) hob
  have hcap : capTo P.orders P.orders.length = ordP P := by
    have h := capTo_le P.orders.length (fun i hi => (hob i hi).1)
    have h2 := hP.le729
    exact h.2 (h.1.2 h2)
  rw [hcap] at hpr
  have HPR := Lib.hid hpr; clear hpr hcap hob
  go_wp2_with fail
  refine Calls.mono HPR.out ?_
  rintro _ _ ⟨rfl, rfl⟩
  go_wp2
  go_ret2
  exact ⟨_, rfl, grown_trans hg0 hg1, rfl⟩

set_option maxRecDepth 100000 in
set_option maxHeartbeats 1000000 in
theorem size9_ok (P : Pr) (hr : rconsB P = true) (w : World) (pv : Value) (Sp : Nat → Prop) (hpv : PresV Sp w pv P) :
    Calls Tryz.prog 23 #[pv] w (Ret w fun _ v => v = .int .i64 (ordP P)) := by
  have hrH := Lib.hid hr; clear hr
  obtain ⟨vo, vp, vc, rfl, h3⟩ := hpv
  have hp0 := PresP.box h3 28
  have hg0 : Ext w (w.alloc (.cells #[vo, vp, vc] 28)) := World.grownBy_alloc _ _ _
  obtain ⟨vo6, vp6, vc6, _, _, hc0, hc1, hc2, h36⟩ := hp0.at
  simp only [Nat.zero_add] at hc1 hc2
  clear hp0
  go_enter Tryz.func23, Tryz.ntmps23
  go_wp2_with fail
  clear hc0 hc1 hc2
  refine Calls.mono (sOrder_ok P hrH.out _ _ _ ⟨_, _, _, rfl, h36⟩) ?_
  rintro e1 w1 ⟨v1, rfl, hg1, rfl⟩
  go_wp2
  go_ret
  exact ⟨_, rfl, grown_trans hg0 hg1, rfl⟩

end Go.Proofs.YtldheeicjnncoaaGreat
namespace Go.Proofs.YtldheeicjnncoaaGreat
open Go.RowKit
attribute [local go_sem ↓] Go.wp_at_zero Go.wp_at_succ

set_option maxRecDepth 100000 in
set_option maxHeartbeats 8000000 in
theorem lawHd_ok (w : World) (cv : Value) (bs : List Int) (S : Nat → Prop) (hb : Bytes S w cv bs) :
    Calls Tryz.prog 3 #[cv] w (Ret w fun _ v => v = .bool true) := by
  obtain ⟨ca, cc, rfl, _, _⟩ := Sl.shape hb
  go_enter Tryz.func3, Tryz.ntmps3
  go_wp2_with fail
  refine Calls.mono (big_ok w _ bs S hb) ?_
  rintro _ _ ⟨rfl, rfl⟩
  by_cases hbg : 4096 < bs.length
  · have hd : decide (4096 < bs.length) = true := by simp [hbg]
    rw [hd]
    go_wp2
    go_ret
    exact ⟨_, rfl, grown_refl _ _, rfl⟩
  have hbl : bs.length ≤ 4096 := by omega
  have hd : decide (4096 < bs.length) = false := by simp [hbg]
  rw [hd]; clear hd hbg
  go_wp2_with fail
  refine Calls.mono (DrawHeadPresentation_ok w _ bs S hb) ?_
  rintro e1 w1 ⟨v1, rfl, hg1, vo, vp, vc, xl, P, rfl, hPl, hP⟩
  obtain ⟨a1, n1, c1, hy1⟩ : ∃ a n c, vo = .slice a n c := by obtain ⟨a, c, e, _⟩ := hP.o.shape; exact ⟨_, _, _, e⟩
  obtain ⟨a2, n2, c2, hy2⟩ : ∃ a n c, vp = .slice a n c := by obtain ⟨a, c, e, _⟩ := Sl.shape hP.p; exact ⟨_, _, _, e⟩
  obtain ⟨a3, n3, c3, hy3⟩ : ∃ a n c, vc = .slice a n c := by obtain ⟨a, c, e, _⟩ := Sl.shape hP.c; exact ⟨_, _, _, e⟩
  subst hy1 hy2 hy3
  have hgX : Ext w1 (w1.alloc (.cells #[.slice a1 n1 c1, .slice a2 n2 c2, .slice a3 n3 c3] 28)) := World.grownBy_alloc _ _ _
  have hX := Box3.made w1 28 (.slice a1 n1 c1) (.slice a2 n2 c2) (.slice a3 n3 c3)
  have hPX := hP.ext hgX
  have hgw := grown_trans hg1 hgX
  have hbX := Bytes.ext hb hgw
  have HA0 := Lib.hid (And.intro hPX (And.intro hgw hbX)); clear hPX  hgw hbX hgX hP  hg1 hb
  obtain ⟨pb, hpb⟩ : ∃ pb, pb = w1.heap.size := ⟨_, rfl⟩
  rw [← hpb] at hX
  have HP := Lib.hid hpb; clear hpb
  go_wp2_with fail
  rw [← HP.out]
  generalize w1.alloc (.cells #[.slice a1 n1 c1, .slice a2 n2 c2, .slice a3 n3 c3] 28) = w2 at *
  clear HP
  have hall : ∀ w', Ext w2 w' → Box3 w' pb (.slice a1 n1 c1) (.slice a2 n2 c2) (.slice a3 n3 c3) ∧ PresV (From w.heap.size) w' (.agg #[.slice a1 n1 c1, .slice a2 n2 c2, .slice a3 n3 c3]) P ∧ Bytes S w' (.slice ca bs.length cc) bs :=
    fun w' h => ⟨hX.ext h, ⟨_, _, _, rfl, HA0.out.1.ext h⟩, Bytes.ext HA0.out.2.2 h⟩
  have HA := Lib.hid hall; clear hall hX
  have hgw := grown_refl w2 none
  have hn1e : n1 = P.orders.length := by
    obtain ⟨vo, vp, vc, e, h3⟩ := (HA.out w2 hgw).2.1
    obtain ⟨a, c, e2, _⟩ := h3.o.shape
    have e3 : (Value.slice a1 n1 c1) = vo := by have := congrArg (fun v => match v with | .agg vs => vs[0]? | _ => none) e; simpa using this
    rw [← e3] at e2
    cases e2; rfl
  have HN1 := Lib.hid hn1e; clear hn1e
  obtain ⟨Ab0_, Ab1_, Ab2_, Ab3_, _⟩ := id (HA.out w2 hgw).1
  go_wp2_with fail
  clear Ab0_ Ab1_ Ab2_ Ab3_
  refine Calls.mono (iHead_ok P w2 _ xl _ (HA.out w2 hgw).2.1) ?_
  rintro e3 w3 ⟨v3, rfl, hg_, Ha1, Hn1, Hc1, Ha2, Hn2, Hc2, Ha3, Hn3, Hc3, rfl, hHp_⟩
  replace hgw := grown_trans hgw hg_
  clear hg_
  have hga_ : Ext w3 (w3.alloc (.cells #[.slice Ha1 Hn1 Hc1, .slice Ha2 Hn2 Hc2, .slice Ha3 Hn3 Hc3] 28)) := World.grownBy_alloc _ _ _
  have hbx_ := Box3.made w3 28 (.slice Ha1 Hn1 Hc1) (.slice Ha2 Hn2 Hc2) (.slice Ha3 Hn3 Hc3)
  obtain ⟨Hb, hHe⟩ : ∃ b, b = w3.heap.size := ⟨_, rfl⟩
  rw [← hHe] at hbx_
  have HHE := Lib.hid hHe; clear hHe
  have hk_ : ∀ w', Ext (w3.alloc (.cells #[.slice Ha1 Hn1 Hc1, .slice Ha2 Hn2 Hc2, .slice Ha3 Hn3 Hc3] 28)) w' → Box3 w' Hb (.slice Ha1 Hn1 Hc1) (.slice Ha2 Hn2 Hc2) (.slice Ha3 Hn3 Hc3) ∧ PresV Any w' (.agg #[.slice Ha1 Hn1 Hc1, .slice Ha2 Hn2 Hc2, .slice Ha3 Hn3 Hc3]) (hdP P xl) := fun w' h => ⟨hbx_.ext h, _, _, _, rfl, (hHp_).ext (grown_trans hga_ h)⟩
  have HH := Lib.hid hk_; clear hk_ hbx_ hHp_
  have hgH := grown_refl (w3.alloc (.cells #[.slice Ha1 Hn1 Hc1, .slice Ha2 Hn2 Hc2, .slice Ha3 Hn3 Hc3] 28)) none
  replace hgw := grown_trans hgw hga_
  clear hga_
  obtain ⟨Ab0_, Ab1_, Ab2_, Ab3_, _⟩ := id (HA.out (w3.alloc (.cells #[.slice Ha1 Hn1 Hc1, .slice Ha2 Hn2 Hc2, .slice Ha3 Hn3 Hc3] 28)) hgw).1
  go_wp2_with fail
  clear Ab0_ Ab1_ Ab2_ Ab3_
  rw [← HHE.out]
  generalize (w3.alloc (.cells #[.slice Ha1 Hn1 Hc1, .slice Ha2 Hn2 Hc2, .slice Ha3 Hn3 Hc3] 28)) = w4 at *
  clear HHE
  refine Calls.mono (sHead_ok P w4 _ xl _ (HA.out w4 hgw).2.1) ?_
  rintro e5 w5 ⟨v5, rfl, hg_, Ra1, Rn1, Rc1, Ra2, Rn2, Rc2, Ra3, Rn3, Rc3, rfl, hRp_⟩
  replace hgw := grown_trans hgw hg_
  replace hgH := grown_trans hgH hg_
  have hcc_ : (hdC P xl != hdC P xl) = false := by simp
  clear hg_
  have hga_ : Ext w5 (w5.alloc (.cells #[.slice Ra1 Rn1 Rc1, .slice Ra2 Rn2 Rc2, .slice Ra3 Rn3 Rc3] 28)) := World.grownBy_alloc _ _ _
  have hbx_ := Box3.made w5 28 (.slice Ra1 Rn1 Rc1) (.slice Ra2 Rn2 Rc2) (.slice Ra3 Rn3 Rc3)
  obtain ⟨Rb, hRe⟩ : ∃ b, b = w5.heap.size := ⟨_, rfl⟩
  rw [← hRe] at hbx_
  have HRE := Lib.hid hRe; clear hRe
  have hk_ : ∀ w', Ext (w5.alloc (.cells #[.slice Ra1 Rn1 Rc1, .slice Ra2 Rn2 Rc2, .slice Ra3 Rn3 Rc3] 28)) w' → Box3 w' Rb (.slice Ra1 Rn1 Rc1) (.slice Ra2 Rn2 Rc2) (.slice Ra3 Rn3 Rc3) ∧ PresV Any w' (.agg #[.slice Ra1 Rn1 Rc1, .slice Ra2 Rn2 Rc2, .slice Ra3 Rn3 Rc3]) (hdP P xl) := fun w' h => ⟨hbx_.ext h, _, _, _, rfl, (hRp_).ext (grown_trans hga_ h)⟩
  have HR := Lib.hid hk_; clear hk_ hbx_ hRp_
  have hgR := grown_refl (w5.alloc (.cells #[.slice Ra1 Rn1 Rc1, .slice Ra2 Rn2 Rc2, .slice Ra3 Rn3 Rc3] 28)) none
  replace hgw := grown_trans hgw hga_
  replace hgH := grown_trans hgH hga_
  clear hga_
  obtain ⟨Hb0_, Hb1_, Hb2_, Hb3_, _⟩ := id (HH.out (w5.alloc (.cells #[.slice Ra1 Rn1 Rc1, .slice Ra2 Rn2 Rc2, .slice Ra3 Rn3 Rc3] 28)) hgH).1
  obtain ⟨Rb0_, Rb1_, Rb2_, Rb3_, _⟩ := id (HR.out (w5.alloc (.cells #[.slice Ra1 Rn1 Rc1, .slice Ra2 Rn2 Rc2, .slice Ra3 Rn3 Rc3] 28)) hgR).1
  go_wp2_with fail
  clear Hb0_ Hb1_ Hb2_ Hb3_ Rb0_ Rb1_ Rb2_ Rb3_
  rw [← HRE.out]
  generalize (w5.alloc (.cells #[.slice Ra1 Rn1 Rc1, .slice Ra2 Rn2 Rc2, .slice Ra3 Rn3 Rc3] 28)) = w6 at *
  clear HRE
  clear hcc_
  refine Calls.mono (likeP9_ok _ _ (hdP P xl) w6 Any Any (HH.out w6 hgH).2 (HR.out w6 hgR).2) ?_
  rintro e7 w7 ⟨v7, rfl, hg_, rfl⟩
  replace hgw := grown_trans hgw hg_
  replace hgH := grown_trans hgH hg_
  replace hgR := grown_trans hgR hg_
  clear HR hgR
  clear hg_
  obtain ⟨Ab0_, Ab1_, Ab2_, Ab3_, _⟩ := id (HA.out w7 hgw).1
  go_wp2_with fail
  clear Ab0_ Ab1_ Ab2_ Ab3_
  refine Calls.mono (iNTail_ok P w7 _ xl _ (HA.out w7 hgw).2.1) ?_
  rintro e8 w8 ⟨v8, rfl, hg_, rfl⟩
  replace hgw := grown_trans hgw hg_
  replace hgH := grown_trans hgH hg_
  clear hg_
  by_cases hc : ntC P xl = 0
  case neg =>
    obtain ⟨h1, _⟩ := hd_bad hc
    have hv := ntV_no hc
    have h12 : ntC P xl = 1 ∨ ntC P xl = 2 := by
      by_cases hr : rconsB P = true
      · exact .inr (nt_rng hr (fun h => hc (nt_ok hr h)))
      · exact .inl (nt_bad hr)
    rw [h1, hv]
    clear h1 hv hc
    rcases h12 with h12 | h12
    · rw [h12]
      clear h12
      go_wp2
      go_ret
      exact ⟨_, rfl, grown_trans HA0.out.2.1 hgw, rfl⟩
    · rw [h12]
      clear h12
      go_wp2
      go_ret
      exact ⟨_, rfl, grown_trans HA0.out.2.1 hgw, rfl⟩
  obtain ⟨hr, hi0, hin⟩ := nt_zero hc
  have G := grp_of_r hr
  have hn6 := G.v.n6
  obtain ⟨i, rfl⟩ := Int.eq_ofNat_of_zero_le hi0
  have hi : i ≤ P.orders.length := by omega
  have hiff : ntV P (i : Int) = true ↔ TlN P i := by rw [ntV_iff hc, Int.toNat_natCast]
  have hU := tl_sub G hi
  have hul : (tlG P i).length ≤ 6 := by rw [tl_len]; omega
  have hin1 : i ≤ n1 := by rw [HN1.out]; exact hi
  have hn16 : n1 ≤ 6 := by rw [HN1.out]; exact hn6
  have hts := tail_sub G hi
  have htc := tail_cons G hi
  have hnn := tl_norm G hi
  have HH0 := Lib.hid (And.intro hr (And.intro hi (And.intro hU (And.intro hul (And.intro hts (And.intro htc (And.intro hnn hiff)))))))
  rw [hc]
  cases hb : ntV P (i : Int) with
  | false =>
      have hT : ¬ TlN P i := fun h => by have := hiff.2 h; rw [hb] at this; cases this
      obtain ⟨h1, _⟩ := hd_not hc (by rw [Int.toNat_natCast]; exact hT)
      rw [h1]
      have HT0 := Lib.hid hT
      clear h1 hT hb hiff hc hi0 hin hU hul hts htc hnn hr hi
      obtain ⟨Ab0_, Ab1_, Ab2_, Ab3_, _⟩ := id (HA.out w8 hgw).1
      go_wp2_with fail
      clear Ab0_ Ab1_ Ab2_ Ab3_
      refine Calls.mono (units9F_ok n1 i w8 hin1 (by omega)) ?_
      rintro e9 w9 ⟨v9, rfl, hg_, hUo_⟩
      replace hgw := grown_trans hgw hg_
      replace hgH := grown_trans hgH hg_
      have hUr_ : Rows2 Any w9 v9 (tlG P i) := by
        have h := RowsD.rows (SlO.toD hUo_ (by rw [HN1.out]; have := HH0.out.2.2.2.1; unfold tlG at this; omega))
        rw [HN1.out] at h
        exact Rows2.sub h (fun _ _ _ => trivial)
      obtain ⟨ua, uc, hus_, _, _⟩ := Sl.shape hUr_
      subst hus_
      have hUx_ : ∀ w', Ext w9 w' → Rows2 Any w' (.slice ua (tlG P i).length uc) (tlG P i) := fun w' h => Rows2.ext hUr_ h
      have HU := Lib.hid hUx_; clear hUx_ hUr_ hUo_
      have hgU := grown_refl w9 none
      clear hg_
      obtain ⟨Ab0_, Ab1_, Ab2_, Ab3_, _⟩ := id (HA.out w9 hgw).1
      go_wp2_with fail
      clear Ab0_ Ab1_ Ab2_ Ab3_
      refine Calls.mono (iNormal_ok P HH0.out.1 w9 _ _ (tlG P i) _ Any (HA.out w9 hgw).2.1 (HU.out w9 hgU) HH0.out.2.2.1) ?_
      rintro e10 w10 ⟨v10, rfl, hg_, r_, rfl, hr_⟩
      replace hgw := grown_trans hgw hg_
      replace hgH := grown_trans hgH hg_
      replace hgU := grown_trans hgU hg_
      obtain rfl : r_ = false := by
        cases r_ with
        | false => rfl
        | true => exact absurd (HH0.out.2.2.2.2.2.2.1.1 (hr_.1 rfl)) HT0.out
      clear hr_
      clear hg_
      obtain ⟨Ab0_, Ab1_, Ab2_, Ab3_, _⟩ := id (HA.out w10 hgw).1
      go_wp2_with fail
      clear Ab0_ Ab1_ Ab2_ Ab3_
      refine Calls.mono (iTail_ok P G.v w10 _ i _ (HA.out w10 hgw).2.1 HH0.out.2.1) ?_
      rintro e11 w11 ⟨v11, rfl, hg_, Ta1, Tn1, Tc1, Ta2, Tn2, Tc2, Ta3, Tn3, Tc3, rfl, hTp_⟩
      replace hgw := grown_trans hgw hg_
      replace hgH := grown_trans hgH hg_
      replace hgU := grown_trans hgU hg_
      clear hg_
      have hga_ : Ext w11 (w11.alloc (.cells #[.slice Ta1 Tn1 Tc1, .slice Ta2 Tn2 Tc2, .slice Ta3 Tn3 Tc3] 28)) := World.grownBy_alloc _ _ _
      have hbx_ := Box3.made w11 28 (.slice Ta1 Tn1 Tc1) (.slice Ta2 Tn2 Tc2) (.slice Ta3 Tn3 Tc3)
      obtain ⟨Tb, hTe⟩ : ∃ b, b = w11.heap.size := ⟨_, rfl⟩
      rw [← hTe] at hbx_
      have HTE := Lib.hid hTe; clear hTe
      have hk_ : ∀ w', Ext (w11.alloc (.cells #[.slice Ta1 Tn1 Tc1, .slice Ta2 Tn2 Tc2, .slice Ta3 Tn3 Tc3] 28)) w' → Box3 w' Tb (.slice Ta1 Tn1 Tc1) (.slice Ta2 Tn2 Tc2) (.slice Ta3 Tn3 Tc3) ∧ PresV Any w' (.agg #[.slice Ta1 Tn1 Tc1, .slice Ta2 Tn2 Tc2, .slice Ta3 Tn3 Tc3]) (tailP P i) := fun w' h => ⟨hbx_.ext h, _, _, _, rfl, (hTp_).ext (grown_trans hga_ h)⟩
      have HT := Lib.hid hk_; clear hk_ hbx_ hTp_
      have hgT := grown_refl (w11.alloc (.cells #[.slice Ta1 Tn1 Tc1, .slice Ta2 Tn2 Tc2, .slice Ta3 Tn3 Tc3] 28)) none
      replace hgw := grown_trans hgw hga_
      replace hgH := grown_trans hgH hga_
      replace hgU := grown_trans hgU hga_
      clear hga_
      obtain ⟨Ab0_, Ab1_, Ab2_, Ab3_, _⟩ := id (HA.out (w11.alloc (.cells #[.slice Ta1 Tn1 Tc1, .slice Ta2 Tn2 Tc2, .slice Ta3 Tn3 Tc3] 28)) hgw).1
      go_wp2_with fail
      clear Ab0_ Ab1_ Ab2_ Ab3_
      rw [← HTE.out]
      generalize (w11.alloc (.cells #[.slice Ta1 Tn1 Tc1, .slice Ta2 Tn2 Tc2, .slice Ta3 Tn3 Tc3] 28)) = w12 at *
      clear HTE
      refine Calls.mono (iSupP_ok P HH0.out.1 w12 _ _ (tlG P i) _ Any (HA.out w12 hgw).2.1 (HU.out w12 hgU) HH0.out.2.2.1) ?_
      rintro e13 w13 ⟨v13, rfl, hg_, Sa1, Sn1, Sc1, Sa2, Sn2, Sc2, Sa3, Sn3, Sc3, rfl, hSp_⟩
      replace hgw := grown_trans hgw hg_
      replace hgH := grown_trans hgH hg_
      replace hgU := grown_trans hgU hg_
      replace hgT := grown_trans hgT hg_
      rw [HH0.out.2.2.2.2.1] at hSp_
      clear hg_
      have hga_ : Ext w13 (w13.alloc (.cells #[.slice Sa1 Sn1 Sc1, .slice Sa2 Sn2 Sc2, .slice Sa3 Sn3 Sc3] 28)) := World.grownBy_alloc _ _ _
      have hbx_ := Box3.made w13 28 (.slice Sa1 Sn1 Sc1) (.slice Sa2 Sn2 Sc2) (.slice Sa3 Sn3 Sc3)
      obtain ⟨Sb, hSe⟩ : ∃ b, b = w13.heap.size := ⟨_, rfl⟩
      rw [← hSe] at hbx_
      have HSE := Lib.hid hSe; clear hSe
      have hk_ : ∀ w', Ext (w13.alloc (.cells #[.slice Sa1 Sn1 Sc1, .slice Sa2 Sn2 Sc2, .slice Sa3 Sn3 Sc3] 28)) w' → Box3 w' Sb (.slice Sa1 Sn1 Sc1) (.slice Sa2 Sn2 Sc2) (.slice Sa3 Sn3 Sc3) ∧ PresV Any w' (.agg #[.slice Sa1 Sn1 Sc1, .slice Sa2 Sn2 Sc2, .slice Sa3 Sn3 Sc3]) (tailP P i) := fun w' h => ⟨hbx_.ext h, _, _, _, rfl, (hSp_).ext (grown_trans hga_ h)⟩
      have HS := Lib.hid hk_; clear hk_ hbx_ hSp_
      have hgS := grown_refl (w13.alloc (.cells #[.slice Sa1 Sn1 Sc1, .slice Sa2 Sn2 Sc2, .slice Sa3 Sn3 Sc3] 28)) none
      replace hgw := grown_trans hgw hga_
      replace hgH := grown_trans hgH hga_
      replace hgU := grown_trans hgU hga_
      replace hgT := grown_trans hgT hga_
      clear hga_
      obtain ⟨Tb0_, Tb1_, Tb2_, Tb3_, _⟩ := id (HT.out (w13.alloc (.cells #[.slice Sa1 Sn1 Sc1, .slice Sa2 Sn2 Sc2, .slice Sa3 Sn3 Sc3] 28)) hgT).1
      obtain ⟨Sb0_, Sb1_, Sb2_, Sb3_, _⟩ := id (HS.out (w13.alloc (.cells #[.slice Sa1 Sn1 Sc1, .slice Sa2 Sn2 Sc2, .slice Sa3 Sn3 Sc3] 28)) hgS).1
      go_wp2_with fail
      clear Tb0_ Tb1_ Tb2_ Tb3_ Sb0_ Sb1_ Sb2_ Sb3_
      rw [← HSE.out]
      generalize (w13.alloc (.cells #[.slice Sa1 Sn1 Sc1, .slice Sa2 Sn2 Sc2, .slice Sa3 Sn3 Sc3] 28)) = w14 at *
      clear HSE
      refine Calls.mono (likeP9_ok _ _ (tailP P i) w14 Any Any (HT.out w14 hgT).2 (HS.out w14 hgS).2) ?_
      rintro e15 w15 ⟨v15, rfl, hg_, rfl⟩
      replace hgw := grown_trans hgw hg_
      replace hgH := grown_trans hgH hg_
      replace hgU := grown_trans hgU hg_
      replace hgT := grown_trans hgT hg_
      replace hgS := grown_trans hgS hg_
      clear HS hgS
      clear hg_
      obtain ⟨Tb0_, Tb1_, Tb2_, Tb3_, _⟩ := id (HT.out w15 hgT).1
      go_wp2_with fail
      clear Tb0_ Tb1_ Tb2_ Tb3_
      refine Calls.mono (isConsistent_ok (tailP P i) w15 _ Any (HT.out w15 hgT).2) ?_
      rintro e16 w16 ⟨v16, rfl, hg_, rfl⟩
      replace hgw := grown_trans hgw hg_
      replace hgH := grown_trans hgH hg_
      replace hgU := grown_trans hgU hg_
      replace hgT := grown_trans hgT hg_
      rw [icons_eq, HH0.out.2.2.2.2.2.1]
      clear hg_
      go_wp2
      go_ret
      exact ⟨_, rfl, grown_trans HA0.out.2.1 hgw, rfl⟩
  | true =>
      have hT : TlN P i := hiff.1 hb
      obtain ⟨h1, h2⟩ := hd_ok hc (by rw [Int.toNat_natCast]; exact hT)
      rw [Int.toNat_natCast] at h2
      rw [h1]
      rw [h2] at HH
      have hhc := head_cons G hi hr hT
      have hhq := head_quo G hi hr
      have hht := head_tail (P := P) hi
      have HT0 := Lib.hid (And.intro hT (And.intro hhc (And.intro hhq hht)))
      clear h1 h2 hT hb hiff hc hi0 hin hU hul hts htc hnn hr hi hhc hhq hht
      obtain ⟨Ab0_, Ab1_, Ab2_, Ab3_, _⟩ := id (HA.out w8 hgw).1
      go_wp2_with fail
      clear Ab0_ Ab1_ Ab2_ Ab3_
      refine Calls.mono (units9F_ok n1 i w8 hin1 (by omega)) ?_
      rintro e9 w9 ⟨v9, rfl, hg_, hUo_⟩
      replace hgw := grown_trans hgw hg_
      replace hgH := grown_trans hgH hg_
      have hUr_ : Rows2 Any w9 v9 (tlG P i) := by
        have h := RowsD.rows (SlO.toD hUo_ (by rw [HN1.out]; have := HH0.out.2.2.2.1; unfold tlG at this; omega))
        rw [HN1.out] at h
        exact Rows2.sub h (fun _ _ _ => trivial)
      obtain ⟨ua, uc, hus_, _, _⟩ := Sl.shape hUr_
      subst hus_
      have hUx_ : ∀ w', Ext w9 w' → Rows2 Any w' (.slice ua (tlG P i).length uc) (tlG P i) := fun w' h => Rows2.ext hUr_ h
      have HU := Lib.hid hUx_; clear hUx_ hUr_ hUo_
      have hgU := grown_refl w9 none
      clear hg_
      obtain ⟨Ab0_, Ab1_, Ab2_, Ab3_, _⟩ := id (HA.out w9 hgw).1
      go_wp2_with fail
      clear Ab0_ Ab1_ Ab2_ Ab3_
      refine Calls.mono (iNormal_ok P HH0.out.1 w9 _ _ (tlG P i) _ Any (HA.out w9 hgw).2.1 (HU.out w9 hgU) HH0.out.2.2.1) ?_
      rintro e10 w10 ⟨v10, rfl, hg_, r_, rfl, hr_⟩
      replace hgw := grown_trans hgw hg_
      replace hgH := grown_trans hgH hg_
      replace hgU := grown_trans hgU hg_
      obtain rfl : r_ = true := by
        cases r_ with
        | true => rfl
        | false => exact (hr_.2 (HH0.out.2.2.2.2.2.2.1.2 HT0.out.1))
      clear hr_
      clear hg_
      obtain ⟨Ab0_, Ab1_, Ab2_, Ab3_, _⟩ := id (HA.out w10 hgw).1
      go_wp2_with fail
      clear Ab0_ Ab1_ Ab2_ Ab3_
      refine Calls.mono (iTail_ok P G.v w10 _ i _ (HA.out w10 hgw).2.1 HH0.out.2.1) ?_
      rintro e11 w11 ⟨v11, rfl, hg_, Ta1, Tn1, Tc1, Ta2, Tn2, Tc2, Ta3, Tn3, Tc3, rfl, hTp_⟩
      replace hgw := grown_trans hgw hg_
      replace hgH := grown_trans hgH hg_
      replace hgU := grown_trans hgU hg_
      clear hg_
      have hga_ : Ext w11 (w11.alloc (.cells #[.slice Ta1 Tn1 Tc1, .slice Ta2 Tn2 Tc2, .slice Ta3 Tn3 Tc3] 28)) := World.grownBy_alloc _ _ _
      have hbx_ := Box3.made w11 28 (.slice Ta1 Tn1 Tc1) (.slice Ta2 Tn2 Tc2) (.slice Ta3 Tn3 Tc3)
      obtain ⟨Tb, hTe⟩ : ∃ b, b = w11.heap.size := ⟨_, rfl⟩
      rw [← hTe] at hbx_
      have HTE := Lib.hid hTe; clear hTe
      have hk_ : ∀ w', Ext (w11.alloc (.cells #[.slice Ta1 Tn1 Tc1, .slice Ta2 Tn2 Tc2, .slice Ta3 Tn3 Tc3] 28)) w' → Box3 w' Tb (.slice Ta1 Tn1 Tc1) (.slice Ta2 Tn2 Tc2) (.slice Ta3 Tn3 Tc3) ∧ PresV Any w' (.agg #[.slice Ta1 Tn1 Tc1, .slice Ta2 Tn2 Tc2, .slice Ta3 Tn3 Tc3]) (tailP P i) := fun w' h => ⟨hbx_.ext h, _, _, _, rfl, (hTp_).ext (grown_trans hga_ h)⟩
      have HT := Lib.hid hk_; clear hk_ hbx_ hTp_
      have hgT := grown_refl (w11.alloc (.cells #[.slice Ta1 Tn1 Tc1, .slice Ta2 Tn2 Tc2, .slice Ta3 Tn3 Tc3] 28)) none
      replace hgw := grown_trans hgw hga_
      replace hgH := grown_trans hgH hga_
      replace hgU := grown_trans hgU hga_
      clear hga_
      obtain ⟨Ab0_, Ab1_, Ab2_, Ab3_, _⟩ := id (HA.out (w11.alloc (.cells #[.slice Ta1 Tn1 Tc1, .slice Ta2 Tn2 Tc2, .slice Ta3 Tn3 Tc3] 28)) hgw).1
      go_wp2_with fail
      clear Ab0_ Ab1_ Ab2_ Ab3_
      rw [← HTE.out]
      generalize (w11.alloc (.cells #[.slice Ta1 Tn1 Tc1, .slice Ta2 Tn2 Tc2, .slice Ta3 Tn3 Tc3] 28)) = w12 at *
      clear HTE
      refine Calls.mono (iSupP_ok P HH0.out.1 w12 _ _ (tlG P i) _ Any (HA.out w12 hgw).2.1 (HU.out w12 hgU) HH0.out.2.2.1) ?_
      rintro e13 w13 ⟨v13, rfl, hg_, Sa1, Sn1, Sc1, Sa2, Sn2, Sc2, Sa3, Sn3, Sc3, rfl, hSp_⟩
      replace hgw := grown_trans hgw hg_
      replace hgH := grown_trans hgH hg_
      replace hgU := grown_trans hgU hg_
      replace hgT := grown_trans hgT hg_
      rw [HH0.out.2.2.2.2.1] at hSp_
      clear hg_
      have hga_ : Ext w13 (w13.alloc (.cells #[.slice Sa1 Sn1 Sc1, .slice Sa2 Sn2 Sc2, .slice Sa3 Sn3 Sc3] 28)) := World.grownBy_alloc _ _ _
      have hbx_ := Box3.made w13 28 (.slice Sa1 Sn1 Sc1) (.slice Sa2 Sn2 Sc2) (.slice Sa3 Sn3 Sc3)
      obtain ⟨Sb, hSe⟩ : ∃ b, b = w13.heap.size := ⟨_, rfl⟩
      rw [← hSe] at hbx_
      have HSE := Lib.hid hSe; clear hSe
      have hk_ : ∀ w', Ext (w13.alloc (.cells #[.slice Sa1 Sn1 Sc1, .slice Sa2 Sn2 Sc2, .slice Sa3 Sn3 Sc3] 28)) w' → Box3 w' Sb (.slice Sa1 Sn1 Sc1) (.slice Sa2 Sn2 Sc2) (.slice Sa3 Sn3 Sc3) ∧ PresV Any w' (.agg #[.slice Sa1 Sn1 Sc1, .slice Sa2 Sn2 Sc2, .slice Sa3 Sn3 Sc3]) (tailP P i) := fun w' h => ⟨hbx_.ext h, _, _, _, rfl, (hSp_).ext (grown_trans hga_ h)⟩
      have HS := Lib.hid hk_; clear hk_ hbx_ hSp_
      have hgS := grown_refl (w13.alloc (.cells #[.slice Sa1 Sn1 Sc1, .slice Sa2 Sn2 Sc2, .slice Sa3 Sn3 Sc3] 28)) none
      replace hgw := grown_trans hgw hga_
      replace hgH := grown_trans hgH hga_
      replace hgU := grown_trans hgU hga_
      replace hgT := grown_trans hgT hga_
      clear hga_
      obtain ⟨Tb0_, Tb1_, Tb2_, Tb3_, _⟩ := id (HT.out (w13.alloc (.cells #[.slice Sa1 Sn1 Sc1, .slice Sa2 Sn2 Sc2, .slice Sa3 Sn3 Sc3] 28)) hgT).1
      obtain ⟨Sb0_, Sb1_, Sb2_, Sb3_, _⟩ := id (HS.out (w13.alloc (.cells #[.slice Sa1 Sn1 Sc1, .slice Sa2 Sn2 Sc2, .slice Sa3 Sn3 Sc3] 28)) hgS).1
      go_wp2_with fail
      clear Tb0_ Tb1_ Tb2_ Tb3_ Sb0_ Sb1_ Sb2_ Sb3_
      rw [← HSE.out]
      generalize (w13.alloc (.cells #[.slice Sa1 Sn1 Sc1, .slice Sa2 Sn2 Sc2, .slice Sa3 Sn3 Sc3] 28)) = w14 at *
      clear HSE
      refine Calls.mono (likeP9_ok _ _ (tailP P i) w14 Any Any (HT.out w14 hgT).2 (HS.out w14 hgS).2) ?_
      rintro e15 w15 ⟨v15, rfl, hg_, rfl⟩
      replace hgw := grown_trans hgw hg_
      replace hgH := grown_trans hgH hg_
      replace hgU := grown_trans hgU hg_
      replace hgT := grown_trans hgT hg_
      replace hgS := grown_trans hgS hg_
      clear HS hgS
      clear hg_
      obtain ⟨Tb0_, Tb1_, Tb2_, Tb3_, _⟩ := id (HT.out w15 hgT).1
      go_wp2_with fail
      clear Tb0_ Tb1_ Tb2_ Tb3_
      refine Calls.mono (isConsistent_ok (tailP P i) w15 _ Any (HT.out w15 hgT).2) ?_
      rintro e16 w16 ⟨v16, rfl, hg_, rfl⟩
      replace hgw := grown_trans hgw hg_
      replace hgH := grown_trans hgH hg_
      replace hgU := grown_trans hgU hg_
      replace hgT := grown_trans hgT hg_
      rw [icons_eq, HH0.out.2.2.2.2.2.1]
      clear hg_
      obtain ⟨Ab0_, Ab1_, Ab2_, Ab3_, _⟩ := id (HA.out w16 hgw).1
      go_wp2_with fail
      clear Ab0_ Ab1_ Ab2_ Ab3_
      refine Calls.mono (iQuoP_ok P HH0.out.1 w16 _ _ (tlG P i) _ Any (HA.out w16 hgw).2.1 (HU.out w16 hgU) HH0.out.2.2.1 (HH0.out.2.2.2.2.2.2.1.2 HT0.out.1)) ?_
      rintro e17 w17 ⟨v17, rfl, hg_, Qa1, Qn1, Qc1, Qa2, Qn2, Qc2, Qa3, Qn3, Qc3, rfl, hQp_⟩
      replace hgw := grown_trans hgw hg_
      replace hgH := grown_trans hgH hg_
      replace hgU := grown_trans hgU hg_
      replace hgT := grown_trans hgT hg_
      rw [HT0.out.2.2.1] at hQp_
      clear hg_
      have hga_ : Ext w17 (w17.alloc (.cells #[.slice Qa1 Qn1 Qc1, .slice Qa2 Qn2 Qc2, .slice Qa3 Qn3 Qc3] 28)) := World.grownBy_alloc _ _ _
      have hbx_ := Box3.made w17 28 (.slice Qa1 Qn1 Qc1) (.slice Qa2 Qn2 Qc2) (.slice Qa3 Qn3 Qc3)
      obtain ⟨Qb, hQe⟩ : ∃ b, b = w17.heap.size := ⟨_, rfl⟩
      rw [← hQe] at hbx_
      have HQE := Lib.hid hQe; clear hQe
      have hk_ : ∀ w', Ext (w17.alloc (.cells #[.slice Qa1 Qn1 Qc1, .slice Qa2 Qn2 Qc2, .slice Qa3 Qn3 Qc3] 28)) w' → Box3 w' Qb (.slice Qa1 Qn1 Qc1) (.slice Qa2 Qn2 Qc2) (.slice Qa3 Qn3 Qc3) ∧ PresV Any w' (.agg #[.slice Qa1 Qn1 Qc1, .slice Qa2 Qn2 Qc2, .slice Qa3 Qn3 Qc3]) (headP P i) := fun w' h => ⟨hbx_.ext h, _, _, _, rfl, (hQp_).ext (grown_trans hga_ h)⟩
      have HQ := Lib.hid hk_; clear hk_ hbx_ hQp_
      replace hgw := grown_trans hgw hga_
      replace hgH := grown_trans hgH hga_
      replace hgU := grown_trans hgU hga_
      replace hgT := grown_trans hgT hga_
      clear hga_
      go_wp2
      rw [← HQE.out]
      generalize (w17.alloc (.cells #[.slice Qa1 Qn1 Qc1, .slice Qa2 Qn2 Qc2, .slice Qa3 Qn3 Qc3] 28)) = w18 at *
      clear HQE
      have fQ0 : ∀ w', Ext w18 w' → w'.cell? ⟨Qb, 0, none⟩ = some (.slice Qa1 Qn1 Qc1) := fun w' h => (HQ.out w' h).1.2.1
      have fQ1 : ∀ w', Ext w18 w' → w'.cell? ⟨Qb, 1, none⟩ = some (.slice Qa2 Qn2 Qc2) := fun w' h => (HQ.out w' h).1.2.2.1
      have fQ2 : ∀ w', Ext w18 w' → w'.cell? ⟨Qb, 2, none⟩ = some (.slice Qa3 Qn3 Qc3) := fun w' h => (HQ.out w' h).1.2.2.2.1
      have fH0 : ∀ w', Ext w18 w' → w'.cell? ⟨Hb, 0, none⟩ = some (.slice Ha1 Hn1 Hc1) := fun w' h => (HH.out w' (grown_trans hgH h)).1.2.1
      have fH1 : ∀ w', Ext w18 w' → w'.cell? ⟨Hb, 1, none⟩ = some (.slice Ha2 Hn2 Hc2) := fun w' h => (HH.out w' (grown_trans hgH h)).1.2.2.1
      have fH2 : ∀ w', Ext w18 w' → w'.cell? ⟨Hb, 2, none⟩ = some (.slice Ha3 Hn3 Hc3) := fun w' h => (HH.out w' (grown_trans hgH h)).1.2.2.2.1
      have fT0 : ∀ w', Ext w18 w' → w'.cell? ⟨Tb, 0, none⟩ = some (.slice Ta1 Tn1 Tc1) := fun w' h => (HT.out w' (grown_trans hgT h)).1.2.1
      have fT1 : ∀ w', Ext w18 w' → w'.cell? ⟨Tb, 1, none⟩ = some (.slice Ta2 Tn2 Tc2) := fun w' h => (HT.out w' (grown_trans hgT h)).1.2.2.1
      have fT2 : ∀ w', Ext w18 w' → w'.cell? ⟨Tb, 2, none⟩ = some (.slice Ta3 Tn3 Tc3) := fun w' h => (HT.out w' (grown_trans hgT h)).1.2.2.2.1
      have fA0 : ∀ w', Ext w18 w' → w'.cell? ⟨pb, 0, none⟩ = some (.slice a1 n1 c1) := fun w' h => (HA.out w' (grown_trans hgw h)).1.2.1
      have fA1 : ∀ w', Ext w18 w' → w'.cell? ⟨pb, 1, none⟩ = some (.slice a2 n2 c2) := fun w' h => (HA.out w' (grown_trans hgw h)).1.2.2.1
      have fA2 : ∀ w', Ext w18 w' → w'.cell? ⟨pb, 2, none⟩ = some (.slice a3 n3 c3) := fun w' h => (HA.out w' (grown_trans hgw h)).1.2.2.2.1
      have hmul : IntKind.i64.wrap (ordP (headP P i) * ordP (tailP P i)) = ordP P := by
        rw [HT0.out.2.2.2]
        have h1 := G.v.ordP_pos
        have h2 : ordP P ≤ 729 := G.v.le729
        exact IntWalk.i64_in _ (by omega)
      have hee : (ordP P == ordP P) = true := by simp
      go_region_held3 (fun w' => Ext w18 w') (first | exact grown_drew _ _ | assumption)
        (first
          | (go_at_call 15; refine Calls.mono (Calls.rel2 (w0 := w18) (by first | exact grown_drew _ _ | assumption) (likeP9_ok _ _ (headP P i) _ Any Any (HQ.out _ (by first | exact grown_drew _ _ | assumption)).2 (HH.out _ (grown_trans hgH (by first | exact grown_drew _ _ | assumption))).2)) ?_; rintro eA wA ⟨vA, rfl, hgA, hgA2, _, rfl⟩)
          | (go_at_call 21; refine Calls.mono (Calls.rel2 (w0 := w18) (by assumption) (isConsistent_ok (headP P i) _ _ Any (HH.out _ (grown_trans hgH (by assumption))).2)) ?_; rintro eB wB ⟨vB, rfl, hgB, hgB2, _, rfl⟩; rw [icons_eq, HT0.out.2.1])
          | (go_at_call 23; refine Calls.mono (Calls.rel2 (w0 := w18) (by assumption) (size9_ok (headP P i) HT0.out.2.1 _ _ Any (HH.out _ (grown_trans hgH (by assumption))).2)) ?_; rintro eC wC ⟨vC, rfl, hgC, hgC2, _, rfl⟩)
          | (go_at_call 23; refine Calls.mono (Calls.rel2 (w0 := w18) (by assumption) (size9_ok (tailP P i) HH0.out.2.2.2.2.2.1 _ _ Any (HT.out _ (grown_trans hgT (by assumption))).2)) ?_; rintro eD wD ⟨vD, rfl, hgD, hgD2, _, rfl⟩)
          | (go_at_call 23; refine Calls.mono (Calls.rel2 (w0 := w18) (by assumption) (size9_ok P HH0.out.1 _ _ _ (HA.out _ (grown_trans hgw (by assumption))).2.1)) ?_; rintro eE wE ⟨vE, rfl, hgE, hgE2, _, rfl⟩))
      go_wp2
      go_ret
      exact ⟨_, rfl, grown_trans HA0.out.2.1 (grown_trans hgw (by assumption)), rfl⟩

end Go.Proofs.YtldheeicjnncoaaGreat
namespace Go.Proofs.YtldheeicjnncoaaGreat
open Go.RowKit Go.ChangeShapes Go.WideShapes Go.Deep

section
variable {H : Type} {enc : TypeId × Value → H} {W : World} {sp : Nat → Bool}

/-- a slice that was read is one of this claim's slices -/
theorem open_sl {α : Type} [Inhabited α] {El : World → Value → α → Prop} {t e : TypeId} (ht : Tryz.prog.underlying t = some (.slice e)) (hc : Tryz.prog.cellsOf e = 1)
    (hEl : ∀ n c x, DataW.trod enc Tryz.prog W 0 sp true n e [c] = some x → ∃ y, El W c y) {fuel : Nat} {c : Value} {x : DataW H × List MemPlace} (h : DataW.trod enc Tryz.prog W 0 sp true fuel t [c] = some x) :
    ∃ xs : List α, Sl El Any W c xs := by
  rcases open_slice1 ht hc h with ⟨hcs, _⟩ | ⟨a, len, cap, m, n, V, D, Pl, hcs, _, hl, hm, hmm, _, hx⟩
  · cases hcs
    exact ⟨[], none, 0, rfl, ⟨by simp, by simp, fun _ => rfl⟩, fun i hi => by simp at hi⟩
  · cases hcs
    have hlm : len ≤ m := by rw [hmm]; split <;> omega
    obtain ⟨Z, hZ⟩ := choose_lt (α := α) (n := len) (p := fun i y => El W (V i) y) (fun i hi => hEl n (V i) _ (hx i (by omega)).2)
    refine ⟨(List.range len).map Z, some a, cap, by simp, ⟨by simpa using hl, by simp; unfold maxLen at hm; omega, fun h => by cases h⟩, fun i hi => ?_⟩
    simp only [List.length_map, List.length_range] at hi
    obtain ⟨h1, h2⟩ := hx i (by omega)
    obtain ⟨b, off, spot⟩ := a
    have hs : spot = none := by
      have h0 := (hx 0 (by omega)).1
      exact World.cell?_spot (by simpa [Addr.add] using h0)
    subst hs
    have hcell : W.cell? ⟨b, off + i, none⟩ = some (V i) := by
      have e : (⟨b, off, none⟩ : Addr).add i = ⟨b, off + i, none⟩ := by
        unfold Addr.add; split
        · rename_i h; subst h; rfl
        · rfl
      rw [← e]; exact h1
    refine ⟨b, off, V i, rfl, trivial, World.block_lt_of_cell? W _ hcell, hcell, ?_⟩
    have : gt ((List.range len).map Z) i = Z i := by simp [gt, hi]
    rw [this]; exact hZ i hi

end

end Go.Proofs.YtldheeicjnncoaaGreat
namespace Go.Proofs.YtldheeicjnncoaaGreat
open Go.RowKit Go.ChangeShapes Go.WideShapes Go.ChangeAt

theorem ownB : ownKnob Tryz.prog.godebug = none := by kernel_rfl
theorem laidOutP : laidOutB Tryz.prog = true := by kernel_rfl
theorem und_u8 : Tryz.prog.underlying 5 = some (.int .u8) := by kernel_rfl
theorem und_bytesB : Tryz.prog.underlying 22 = some (.slice 5) := by kernel_rfl
theorem cells_u8 : Tryz.prog.cellsOf 5 = 1 := by kernel_rfl

theorem open_u8 {H : Type} {enc : TypeId × Value → H} {W : World} {sp : Nat → Bool} {n : Nat} {c : Value} {x : DataW H × List MemPlace} (h : DataW.trod enc Tryz.prog W 0 sp true n 5 [c] = some x) : ∃ y, ByteEl W c y := by
  cases n with
  | zero => simp [DataW.trod] at h
  | succ n =>
    unfold DataW.trod at h
    rw [und_u8] at h
    cases c <;> simp at h
    rename_i k z
    obtain ⟨⟨rfl, hz⟩, _⟩ := h
    have hz2 : 0 ≤ z ∧ z ≤ 255 := by
      have h2 := hz
      simp [Lit.wf, IntKind.min, IntKind.max, IntKind.signed, IntKind.bits] at h2
      omega
    exact ⟨z, rfl, hz2⟩
theorem open_bytes {H : Type} {enc : TypeId × Value → H} {W : World} {sp : Nat → Bool} {n : Nat} {c : Value} {x : DataW H × List MemPlace} (h : DataW.trod enc Tryz.prog W 0 sp true n 22 [c] = some x) : ∃ l, Bytes Any W c l :=
  open_sl (El := ByteEl) und_bytesB cells_u8 (fun _ _ _ h => open_u8 h) h

end Go.Proofs.YtldheeicjnncoaaGreat
namespace Go.Proofs.YtldheeicjnncoaaGreat.RowHdOf
open Go.RowKit Go.ChangeShapes Go.WideShapes Go.ChangeAt

set_option maxRecDepth 100000 in
set_option maxHeartbeats 1000000 in
theorem lifted (os : Os) (started : os.Started) (H : Type) (enc : TypeId × Value → H) :
    ReturnsInHanded {} Tryz.checked os 3 .any (Rows.fnHeadsSpec.pre6 enc Tryz.prog Tryz.f3 Rows.fnHeadsRow.domain false) (Rows.fnHeadsSpec.post enc Tryz.prog Tryz.f3 false true false false) := by
  refine returnsInHanded_of_change (C := Tryz.checked) (s := Rows.fnHeadsSpec) ownB started (by kernel_rfl) Tryz.func3
    (ChangeSpec.witness6 (enc := enc) (C := Tryz.checked) (s := Rows.fnHeadsSpec) false ⟨#[], #[.slice none 0 0], []⟩ 8 (by kernel_rfl) (by kernel_rfl) (by kernel_rfl) (by kernel_rfl) (by kernel_rfl)) ?_
  intro W base args ds gs before hval0 hW _ _
  have hW' := hW
  obtain ⟨p, q, hA0, hV, rfl, _, _⟩ := hW
  have hA : DataW.TrodAll enc Tryz.prog W 0 (fun _ => true) true Tryz.f3.params.toList args.toList ds p := hA0
  rw [Tryz.params3] at hA
  obtain ⟨v0, vs0, d0, ds0, p0, q0, hargs, rfl, rfl, h0, r0⟩ := trodAll_cons hA
  obtain ⟨rfl, rfl, rfl⟩ := trodAll_nil r0
  obtain rfl : args = #[v0] := by cases args; simp_all
  obtain ⟨rfl, rfl⟩ := trodVars_none hV
  have hval : Value.okWide Tryz.prog W .any base 22 v0 := hval0 0 _ _ (by rw [Tryz.params3]; rfl) rfl
  obtain ⟨b0, n0, c0, rfl⟩ := okWide_slice und_bytesB hval
  obtain ⟨f0, hf0⟩ := h0
  obtain ⟨l, hP⟩ := open_bytes (c := .slice b0 n0 c0) hf0
  have hlt : ∀ x ∈ p0, x.block < W.heap.size := fun x hx => by simpa using hW'.lt x (by simpa using hx)
  clear hA0
  simp only [List.append_nil] at hW'
  refine (lawHd_ok W (.slice b0 n0 c0) l Any hP).mono fun e W' ⟨v, he, hg, hv⟩ => ?_
  subst he; subst hv
  have hb : Below W.heap.size W W' := hg.below
  have hargs2 := Below.trod laidOutP (by kernel_rfl) (of_decide_eq_true (by kernel_rfl)) ⟨f0, hf0⟩ hb hlt
  exact ⟨_, rfl, [d0], [], p0, [], p0, [], hW', trodAll_mk1 (shut_bool Tryz.underlying4 _), trodAll_mk1 hargs2, rfl, hb.frame _, fun h => by cases h⟩

theorem c0 : Rows.fnHeadsRow.wf (OpenSpec.ofChange Rows.fnHeadsSpec) = true := by kernel_rfl
theorem c1 : laidOutB Tryz.pinned.checked.prog = true := by kernel_rfl
theorem c2 : mapsRowed Tryz.pinned.checked.prog = true := by kernel_rfl
theorem c3 : Tryz.f3.params.all (Tryz.pinned.checked.prog.readableRec ·) = true := by kernel_rfl
theorem c4 : namedTie Tryz.pinned.checked.prog Rows.fnHeadsRow.named Rows.fnHeadsSpec.vars = true := by kernel_rfl
theorem c5 : (Rows.fnHeadsRow.stops == []) = true := by kernel_rfl
theorem c6 : (Tryz.pinned.checked.prog.stops == []) = true := by kernel_rfl
theorem c7 : (Rows.fnHeadsRow.knobs == []) = true := by kernel_rfl
theorem c8 : (Tryz.pinned.checked.prog.stopKnobs == []) = true := by kernel_rfl
theorem c9 : (Rows.fnHeadsRow.inPlace == Tryz.pinned.checked.prog.inPlace 3) = true := by kernel_rfl
theorem c10 : (Rows.fnHeadsRow.unfollowed == Tryz.pinned.checked.prog.unfollowed 3) = true := by kernel_rfl
theorem c11 : (Rows.fnHeadsRow.recurses == Tryz.pinned.checked.prog.recurses 3) = true := by kernel_rfl
theorem c12 : (Rows.fnHeadsRow.named == Tryz.pinned.checked.prog.varsNamed 3) = true := by kernel_rfl
theorem c13 : (Rows.fnHeadsRow.maps == (Tryz.f3.params.toList ++ Rows.fnHeadsSpec.plain.varTypes Tryz.pinned.checked.prog).any (Tryz.pinned.checked.prog.mapsRec ·)) = true := by kernel_rfl
theorem c14 : (Rows.fnHeadsRow.ifaces == (Tryz.f3.params.toList ++ Rows.fnHeadsSpec.plain.varTypes Tryz.pinned.checked.prog).any (Tryz.pinned.checked.prog.ifacesRec ·)) = true := by kernel_rfl
theorem c15 : (Rows.fnHeadsRow.mapsOut == Tryz.pinned.checked.prog.mapsAmong Tryz.f3.resultTypes.toList) = true := by kernel_rfl
theorem c16 : (Rows.fnHeadsRow.loops == (Tryz.f3.params.toList ++ Rows.fnHeadsSpec.plain.varTypes Tryz.pinned.checked.prog).any (Tryz.pinned.checked.prog.loopsFrom ·)) = true := by kernel_rfl
theorem c17 : (Rows.fnHeadsRow.wideKeys == (Tryz.f3.params.toList ++ Rows.fnHeadsSpec.plain.varTypes Tryz.pinned.checked.prog ++ Tryz.f3.resultTypes.toList).any (Tryz.pinned.checked.prog.wideKeysFrom ·)) = true := by kernel_rfl
theorem c18 : Rows.fnHeadsSpec.vars.all (Tryz.pinned.checked.prog.varReadable ·) = true := by kernel_rfl
theorem c19 : Tryz.f3.resultTypes.all (fun t => Tryz.pinned.checked.prog.readableRec t && decide (t < Tryz.pinned.checked.prog.types.size)) = true := by kernel_rfl
theorem c20 : (Rows.fnHeadsRow.ifacesOut == Tryz.f3.resultTypes.toList.any (Tryz.pinned.checked.prog.ifacesRec ·)) = true := by kernel_rfl
theorem c21 : (Rows.fnHeadsRow.loopsOut == Tryz.f3.resultTypes.toList.any (Tryz.pinned.checked.prog.loopsFrom ·)) = true := by kernel_rfl
theorem c22 : (Rows.fnHeadsRow.plainKeys == Tryz.pinned.checked.prog.plainKeys) = true := by kernel_rfl
theorem c23 : Rows.fnHeadsRow.shortTexts.isNone = true := by kernel_rfl
theorem c24 : Tryz.pinned.checked.prog.stopsHeard = true := by kernel_rfl
theorem c25 : Tryz.pinned.checked.prog.mayEnter = true := by kernel_rfl
theorem c26 : (Rows.fnHeadsRow.lifted == Tryz.pinned.checked.prog.liftsFinal) = true := by kernel_rfl
theorem c27 : (Tryz.pinned.checked.prog.make == some Rows.fnHeadsRow.make) = true := by kernel_rfl
theorem c28 : (Rows.fnHeadsRow.kinds == (if Rows.fnHeadsRow.domain.isEmpty then [] else Tryz.f3.params.toList.map fun t => match Tryz.pinned.checked.prog.underlying t with | some (.int k) => some k | _ => none)) = true := by kernel_rfl
theorem c29 : (Rows.fnHeadsRow.pinned == Rows.fnHeadsRow.pinnedBy) = true := by kernel_rfl
theorem c30 : (Rows.fnHeadsRow.veiled == (Tryz.f3.params.toList ++ Rows.fnHeadsSpec.plain.varTypes Tryz.pinned.checked.prog ++ Tryz.f3.resultTypes.toList).any (Tryz.pinned.checked.prog.veiledRec ·)) = true := by kernel_rfl
theorem c31 : Rows.fnHeadsRow.veiledFits Tryz.pinned.checked.prog Tryz.f3.params.toList (Tryz.f3.params.toList ++ Rows.fnHeadsSpec.plain.varTypes Tryz.pinned.checked.prog ++ Tryz.f3.resultTypes.toList) = true := by kernel_rfl
set_option maxRecDepth 1000000 in
theorem facts : joinedFacts Tryz.pinned.checked.prog 3 Tryz.f3 Rows.fnHeadsSpec Rows.fnHeadsRow = true :=
  Bool.and_eq_true_iff.2 ⟨Bool.and_eq_true_iff.2 ⟨Bool.and_eq_true_iff.2 ⟨Bool.and_eq_true_iff.2 ⟨Bool.and_eq_true_iff.2 ⟨Bool.and_eq_true_iff.2 ⟨Bool.and_eq_true_iff.2 ⟨Bool.and_eq_true_iff.2 ⟨Bool.and_eq_true_iff.2 ⟨Bool.and_eq_true_iff.2 ⟨Bool.and_eq_true_iff.2 ⟨Bool.and_eq_true_iff.2 ⟨Bool.and_eq_true_iff.2 ⟨Bool.and_eq_true_iff.2 ⟨Bool.and_eq_true_iff.2 ⟨Bool.and_eq_true_iff.2 ⟨Bool.and_eq_true_iff.2 ⟨Bool.and_eq_true_iff.2 ⟨Bool.and_eq_true_iff.2 ⟨Bool.and_eq_true_iff.2 ⟨Bool.and_eq_true_iff.2 ⟨Bool.and_eq_true_iff.2 ⟨Bool.and_eq_true_iff.2 ⟨Bool.and_eq_true_iff.2 ⟨Bool.and_eq_true_iff.2 ⟨Bool.and_eq_true_iff.2 ⟨Bool.and_eq_true_iff.2 ⟨Bool.and_eq_true_iff.2 ⟨Bool.and_eq_true_iff.2 ⟨Bool.and_eq_true_iff.2 ⟨Bool.and_eq_true_iff.2 ⟨c0, c1⟩, c2⟩, c3⟩, c4⟩, c5⟩, c6⟩, c7⟩, c8⟩, c9⟩, c10⟩, c11⟩, c12⟩, c13⟩, c14⟩, c15⟩, c16⟩, c17⟩, c18⟩, c19⟩, c20⟩, c21⟩, c22⟩, c23⟩, c24⟩, c25⟩, c26⟩, c27⟩, c28⟩, c29⟩, c30⟩, c31⟩

theorem proved : Rows.FnHeadsSaid :=
  OpenClaim.holds_of_wide 3 Tryz.f3 rfl rfl rfl rfl rfl rfl rfl ⟨rfl, rfl, rfl, rfl, rfl⟩ rfl rfl rfl rfl rfl (by kernel_rfl) Tryz.func3 facts
    (of_decide_eq_true (by kernel_rfl)) (by unfold Func.isWrapper; first | (rw [if_pos (by decide +kernel)]; kernel_rfl) | (rw [if_neg (by decide +kernel)]; exact ⟨rfl, rfl⟩))
    (fun os started H enc _ => lifted os started H enc)
#print axioms proved
end Go.Proofs.YtldheeicjnncoaaGreat.RowHdOf
