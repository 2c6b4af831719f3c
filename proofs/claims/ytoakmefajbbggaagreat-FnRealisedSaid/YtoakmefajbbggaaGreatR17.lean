/-
  laws.roll and below: the dice's bytes lie in a set of blocks (printed by gen_rollx.py).
  laws.unit9 and units9 (from the first index on).
  laws.size9, impl.ElementAt on a group.
  laws.FnRealised answers true (printed by gen_lrr.py).
  The rows' arguments: how a presentation that came in, or a list, reads in this claim's words.
  Opening the argument of a row over bytes.
  laws.FnRealised holds: whatever the bytes, the law answers true and the bytes read as they did. No condition. (Printed by gen_rowb.py.)
-/
import Derived.Test.YtoakmefajbbggaaGreatR1
import Derived.Test.YtoakmefajbbggaaGreatR10
import Derived.Test.YtoakmefajbbggaaGreatR14
import Derived.Test.YtoakmefajbbggaaGreatR15
import Derived.Test.YtoakmefajbbggaaGreatR16
import Derived.Test.YtoakmefajbbggaaGreatR3
import Derived.Test.YtoakmefajbbggaaGreatR4
import Derived.Test.YtoakmefajbbggaaGreatR5
import Derived.Test.YtoakmefajbbggaaGreatR6
import Derived.Test.YtoakmefajbbggaaGreatR7
import Derived.Test.YtoakmefajbbggaaGreatR8
import Derived.Test.YtoakmefajbbggaaGreatR9
import Derived.Carry
import Derived.Deep.Slices
import Derived.ChangeSame
import Derived.ChangeSlices
import Derived.JoinedOf
import Derived.JoinedAt
import Derived.JoinedCond
import Derived.ReadAgain
namespace Go.Proofs.YtoakmefajbbggaaGreat
open Go.RowKit

/-- a dice in the block db, its bytes in S -/
def DiceS (S : Nat → Prop) (w : World) (db : Nat) : Prop := ∃ (cv : Value) (i : Nat) (h : Int) (bs : List Int), Box3 w db cv (.int .i64 i) (.int .u64 h) ∧ Bytes S w cv bs ∧ i ≤ bs.length ∧ bs.length ≤ 4096 ∧ (∀ k, S k → k ≠ db) ∧ 0 ≤ h ∧ h < 18446744073709551616
theorem DiceS.keep {S : Nat → Prop} {w w' : World} {db : Nat} (h : DiceS S w db) (hs : w.heap.size ≤ w'.heap.size) (hb : ∀ k, (S k ∨ k = db) → k < w.heap.size → w'.heap[k]? = w.heap[k]?) : DiceS S w' db := by
  obtain ⟨cv, i, x, bs, h1, h2, h3⟩ := h
  exact ⟨cv, i, x, bs, h1.keep hs (hb db (.inr rfl) h1.1), Sl.mono h2 (fun k hk hlt => ⟨hk, Nat.lt_of_lt_of_le hlt hs, hb k (.inl hk) hlt⟩) (fun _ _ h => h), h3⟩
theorem DiceS.ext {S : Nat → Prop} {w w' : World} {db : Nat} (h : DiceS S w db) (hg : Ext w w') : DiceS S w' db := h.keep hg.size (fun k _ hlt => hg.block k hlt (by simp))
theorem DiceS.own {S : Nat → Prop} {w w' : World} {db : Nat} {r : Option Nat} (h : DiceS S w db) (hg : w.grownBy w' r) (hr : ∀ k, r = some k → ¬ S k ∧ k ≠ db) : DiceS S w' db :=
  h.keep hg.size (fun k hk hlt => hg.block k hlt (fun e => by
    obtain ⟨h1, h2⟩ := hr k e.symm
    rcases hk with h | h
    · exact h1 h
    · exact h2 h))
theorem DiceS.lt {S : Nat → Prop} {w : World} {db : Nat} (h : DiceS S w db) : db < w.heap.size := by
  obtain ⟨cv, i, x, bs, h1, h2⟩ := h
  exact h1.1

set_option maxRecDepth 100000 in
set_option maxHeartbeats 8000000 in
theorem rollS_ok (w : World) (cv : Value) (bs : List Int) (S : Nat → Prop) (seed : Int) (hbl : bs.length ≤ 4096) (hb : Bytes S w cv bs) :
    Calls Tryz.prog 15 #[cv, .int .u64 seed] w (Ret w fun w' v => ∃ db, v = .pointer (some ⟨db, 0, none⟩) ∧ w.heap.size ≤ db ∧ DiceS (fun k => S k ∧ k < w.heap.size) w' db) := by
  obtain ⟨a, cap, rfl, _, hlen⟩ := Sl.shape hb
  obtain ⟨h0, hh0⟩ : ∃ h0, h0 = IntKind.u64.wrap (IntKind.u64.wrap (seed * 7607) + (bs.length : Nat)) := ⟨_, rfl⟩
  have hb0 := u64_bd (IntKind.u64.wrap (seed * 7607) + (bs.length : Nat))
  rw [← hh0] at hb0
  have hbA := Box3.made w 88 (.slice a bs.length cap) (.int .i64 0) (.int .u64 h0)
  have hgA : Ext w (w.alloc (.cells #[.slice a bs.length cap, .int .i64 0, .int .u64 h0] 88)) := World.grownBy_alloc _ _ _
  go_enter Tryz.func15, Tryz.ntmps15
  go_wp2_with fail
  rw [← hh0]
  have HH := Lib.hid hh0; clear hh0
  generalize w.alloc (.cells #[.slice a bs.length cap, .int .i64 0, .int .u64 h0] 88) = w0 at *
  go_loopw [6] (fun iv wr => ∃ (i : Nat) (h : Int), iv = .int .i64 i ∧ i ≤ bs.length ∧ (0 ≤ h ∧ h < 18446744073709551616) ∧ Ext w wr ∧ Box3 wr w.heap.size (.slice a bs.length cap) (.int .i64 0) (.int .u64 h)) (fun iv _ => bs.length - (intOf iv).toNat)
  case atStart => exact ⟨0, h0, rfl, by omega, hb0, hgA, hbA⟩
  case round =>
    clear hbA hgA hb0
    obtain ⟨i, h, rfl, hi, hhb, hg, hB⟩ := hrel
    by_cases hlt : i < bs.length
    · obtain ⟨b, off, rfl, hbS, hbl2, hcb, hx0, hx1⟩ := Bytes.at hb i hlt
      have hcr := hg.cell hcb (by simp)
      generalize gt bs i = x at hcb hcr hx0 hx1
      have hli : (i : Int) < (bs.length : Nat) := by omega
      obtain ⟨s2, hs2⟩ : ∃ s2, s2 = IntKind.u64.wrap (IntKind.u64.wrap (IntKind.u64.wrap (h * 1099511628211) + x) + 5) := ⟨_, rfl⟩
      have hs2b := u64_bd (IntKind.u64.wrap (IntKind.u64.wrap (h * 1099511628211) + x) + 5)
      rw [← hs2] at hs2b
      have hBs := (hB.put (.int .u64 s2)).2.2
      have hgs := grown_set wr w.heap.size 2 (.int .u64 s2)
      have hgn : Ext w (wr.setCell ⟨w.heap.size, 2, none⟩ (.int .u64 s2)) := grown_own hg hgs (fun j hj hlt => by have := Option.some.inj hj; omega)
      have hBd := hBs.ext (grown_drew (wr.setCell ⟨w.heap.size, 2, none⟩ (.int .u64 s2)) none)
      have hgd := grown_trans hgn (grown_drew (wr.setCell ⟨w.heap.size, 2, none⟩ (.int .u64 s2)) none)
      have hw0 : IntKind.u64.wrap x = x := IntWalk.u64_in _ (by omega)
      obtain ⟨h0', h1, h2, h3, h4⟩ := id hB
      have c0 : wr.drew.cell? ⟨w.heap.size, 2, none⟩ = some (.int .u64 h) := h3
      have c1 : wr.drew.cell? ⟨b, off + i, none⟩ = some (.int .u8 x) := hcr
      have c2 : w.heap.size < wr.drew.heap.size := h0'
      have c3 := h4
      have hs2' := hs2.symm
      have HQ := Lib.hid (And.intro hgd (And.intro hBd (And.intro hs2b hb))); clear hgd hBd hs2 hs2b hb hgn hgs hBs hB hg h0' h1 h2 h3 hcb hcr
      go_wp2
      go_still_tail 15, (by kernel_rfl)
      change wpList _ _ _ _ _ wr.drew
      go_wp2
      go_roundw
      case rel => exact ⟨i + 1, s2, by go_num, by omega, HQ.out.2.2.1, HQ.out.1, HQ.out.2.1⟩
      case measure => simp [intOf]; omega
    · have hli : ¬ (i : Int) < (bs.length : Nat) := by omega
      have HQ := Lib.hid (And.intro hg hB); clear hg hB
      go_wp2
      go_ret
      exact ⟨_, rfl, HQ.out.1, w.heap.size, rfl, Nat.le_refl _, _, 0, h, bs, HQ.out.2, Bytes.mono hb (fun k hS hlt => ⟨⟨hS, hlt⟩, Nat.lt_of_lt_of_le hlt HQ.out.1.size, HQ.out.1.block k hlt (by simp)⟩), by omega, hbl, fun k hk e => by have := hk.2; omega, hhb⟩

set_option maxRecDepth 100000 in
set_option maxHeartbeats 4000000 in
theorem belowS_ok (S : Nat → Prop) (w : World) (db : Nat) (n : Int) (hd : DiceS S w db) (hn : 1 ≤ n) (hn2 : n ≤ 1000000000) :
    Calls Tryz.prog 17 #[.pointer (some ⟨db, 0, none⟩), .int .i64 n] w (Mut w (some db) fun w' v => ∃ x : Int, v = .int .i64 x ∧ 0 ≤ x ∧ x < n ∧ DiceS S w' db) := by
  obtain ⟨cv, pos, h, bs, hB, hby, hpos, hbl, hdB, hh0, hh1⟩ := hd
  obtain ⟨a, cap, rfl, _, hlen⟩ := hby.shape
  obtain ⟨s2, hs2⟩ : ∃ s2, s2 = IntKind.u64.wrap (IntKind.u64.wrap (h * 6364136223846793005) + 1442695040888963407) := ⟨_, rfl⟩
  have hs2b := u64_bd (IntKind.u64.wrap (h * 6364136223846793005) + 1442695040888963407)
  rw [← hs2] at hs2b
  obtain ⟨y, hy0, hy1, hand⟩ := below_bits s2 hs2b.1 hs2b.2
  have hB1 := (hB.put (.int .u64 s2)).2.2
  obtain ⟨h0, h1, h2, h3, h4⟩ := id hB
  have hs2' := hs2.symm
  clear hs2
  go_enter Tryz.func17, Tryz.ntmps17
  have hg1 : w.grownBy (w.setCell ⟨db, 2, none⟩ (.int .u64 s2)) (some db) := grown_set _ _ _ _
  have hby1 : Bytes S (w.setCell ⟨db, 2, none⟩ (.int .u64 s2)) (.slice a bs.length cap) bs := Bytes.mono hby (frame_of hg1 (fun k hk _ => ⟨hk, fun e => hdB k hk (by cases e; rfl)⟩))
  have HB1 := Lib.hid (And.intro hB1 (And.intro hg1 hby1)); clear hB1 hB hby hg1 hby1
  go_wp2
  clear h0 h1 h2 h3 h4 hs2' hand
  obtain ⟨hB1, hg1, hby1⟩ := HB1.out
  clear HB1
  generalize w.setCell ⟨db, 2, none⟩ (.int .u64 s2) = w1 at *
  obtain ⟨h0, h1, h2, h3, h4⟩ := id hB1
  have HG := Lib.hid (And.intro hB1 (And.intro hg1 hby1)); clear hB1 hg1 hby1
  by_cases hp : pos < bs.length
  · obtain ⟨b, off, rfl, hbs, hbl2, hcb, hx0, hx1⟩ := Bytes.at HG.out.2.2 pos hp
    obtain ⟨x, hx⟩ : ∃ x, x = gt bs pos := ⟨_, rfl⟩
    rw [← hx] at hcb hx0 hx1
    have HX := Lib.hid hx; clear hx
    have hpi : (pos : Int) < bs.length := by omega
    have hp0 : (0 : Int) ≤ pos := by omega
    have hqw : IntKind.i64.wrap (y + x) = y + x := IntWalk.i64_in _ (by omega)
    go_quiet (fail)
    go_wp2
    have hq : Ext w1 (w1.drewN nq) := grown_drewN _ _ _
    have hcb' := hq.cell hcb (by simp)
    have h0' : db < (w1.drewN nq).heap.size := Nat.lt_of_lt_of_le h0 hq.size
    have hG2 := And.intro (HG.out.1.ext hq) (And.intro (grown_trans HG.out.2.1 (grown_of_ext (some db) hq)) (Bytes.ext HG.out.2.2 hq))
    have HG := Lib.hid hG2; clear hG2 hq hcb h0 h1 h2 h3 h4
    obtain ⟨h1, h2, h3, h4⟩ := HG.out.1.2
    generalize w1.drewN nq = w2 at *
    go_quiet (fail)
    have hq : Ext w2 (w2.drewN nq) := grown_drewN _ _ _
    have h0 : db < (w2.drewN nq).heap.size := Nat.lt_of_lt_of_le h0' hq.size
    have hG2 := And.intro (HG.out.1.ext hq) (And.intro (grown_trans HG.out.2.1 (grown_of_ext (some db) hq)) (Bytes.ext HG.out.2.2 hq))
    have HG := Lib.hid hG2; clear hG2 hq hcb' h0' h1 h2 h3 h4
    obtain ⟨h1, h2, h3, h4⟩ := HG.out.1.2
    generalize w2.drewN nq = w3 at *
    have hB4 := (HG.out.1.put (.int .i64 ((pos : Int) + 1))).2.1
    have hg4 : w3.grownBy (w3.setCell ⟨db, 1, none⟩ (.int .i64 ((pos : Int) + 1))) (some db) := grown_set _ _ _ _
    have hby4 : Bytes S (w3.setCell ⟨db, 1, none⟩ (.int .i64 ((pos : Int) + 1))) (.slice (some ⟨b, off, none⟩) bs.length cap) bs := Bytes.mono HG.out.2.2 (frame_of hg4 (fun k hk _ => ⟨hk, fun e => hdB k hk (by cases e; rfl)⟩))
    have hm : 0 ≤ (y + x) % n ∧ (y + x) % n < n := ⟨Int.emod_nonneg _ (by omega), Int.emod_lt_of_pos _ (by omega)⟩
    have HB4 := Lib.hid (And.intro hB4 (And.intro (grown_trans HG.out.2.1 hg4) (And.intro hby4 hm))); clear hB4 hg4 hby4 HG hqw hm
    have hpw : IntKind.i64.wrap ((pos : Int) + 1) = (pos : Int) + 1 := IntWalk.i64_in _ (by omega)
    have hn0 : n ≠ 0 := by omega
    go_wp2
    go_ret
    exact ⟨_, rfl, HB4.out.2.1, _, rfl, HB4.out.2.2.2.1, HB4.out.2.2.2.2, _, pos + 1, s2, bs, HB4.out.1, HB4.out.2.2.1, by omega, hbl, hdB, hs2b⟩
  · have hpi : ¬ (pos : Int) < bs.length := by omega
    have hn0 : n ≠ 0 := by omega
    go_quiet (fail)
    have hq : Ext w1 (w1.drewN nq) := grown_drewN _ _ _
    have hm : 0 ≤ y % n ∧ y % n < n := ⟨Int.emod_nonneg _ (by omega), Int.emod_lt_of_pos _ (by omega)⟩
    have HM := Lib.hid hm; clear hm
    go_wp2
    go_ret
    exact ⟨_, rfl, grown_trans HG.out.2.1 (grown_of_ext _ hq), _, rfl, HM.out.1, HM.out.2, _, pos, s2, bs, HG.out.1.ext hq, Bytes.ext HG.out.2.2 hq, hpos, hbl, hdB, hs2b⟩

end Go.Proofs.YtoakmefajbbggaaGreat
namespace Go.Proofs.YtoakmefajbbggaaGreat
open Go.RowKit

set_option maxRecDepth 100000 in
set_option maxHeartbeats 2000000 in
theorem unit9_ok (n i : Nat) (w : World) (hi : i < n) (hn : n ≤ 1000) :
    Calls Tryz.prog 19 #[.int .i64 (n : Int), .int .i64 (i : Int)] w (Ret w fun w' v => Own w.heap.size w' v (unitV n i)) := by
  go_enter Tryz.func19, Tryz.ntmps19
  go_wp2_with (at_make; refine wp_make_ints rfl _ _ rfl w.heap.size n w.heap.size rfl _ rfl rfl rfl (by omega) (Nat.le_refl _) ?_; intro w1 ho1 hg1 _; have hc1 := ho1.cell i (by simpa using hi); have hf1 := ho1.frozen i)
  go_ret
  obtain ⟨h1, h2⟩ := ho1.store i 1
  exact ⟨_, rfl, grown_own hg1 h2 (fun j hj hlt => by cases hj; omega), h1⟩

set_option maxRecDepth 100000 in
set_option maxHeartbeats 2000000 in
theorem units9_ok (n : Nat) (w : World) (hn : n ≤ 1000) :
    Calls Tryz.prog 14 #[.int .i64 (n : Int), .int .i64 0] w (Ret w fun w' v => RowsO w.heap.size w' v (gensOf n)) := by
  go_enter Tryz.func14, Tryz.ntmps14
  go_wp2
  go_loopw [5, 6] (fun ov iv wr => ∃ (i : Nat) (v5 : Value), v5 = ov ∧ iv = .int .i64 (i : Int) ∧ i ≤ n ∧ Ext w wr ∧ RowsO w.heap.size wr v5 ((gensOf n).take i)) (fun _ iv _ => n - (intOf iv).toNat)
  case atStart => exact ⟨0, _, rfl, rfl, by omega, World.grownBy_alloc _ _ _, by rw [List.take_zero]; exact ⟨[], fun _ _ => False, rfl, World.ownsRow_lit w #[] 0 (Nat.le_refl _) (by decide) rfl, by simp, by simp, by simp⟩⟩
  case round =>
    obtain ⟨i, v5, rfl, rfl, hi, hg, hA⟩ := hrel
    obtain ⟨wo, rfl⟩ : ∃ wo : World, wo = wr := ⟨_, rfl⟩
    have hgl : (gensOf n).length = n := by unfold gensOf; rw [List.length_map, List.length_range]
    by_cases hlt : i < n
    · have hlt' : (i : Int) < n := by omega
      have hst : (gensOf n).take (i + 1) = (gensOf n).take i ++ [unitV n i] := by
        rw [take_succ_gt _ i (by rw [hgl]; exact hlt)]
        unfold gensOf
        rw [gt_map _ _ _ (by rw [List.length_range]; exact hlt)]
        simp [gt, hlt]
      have hul : (unitV n i).length = n := by unfold unitV; simp
      have hll : ((gensOf n).take i).length ≤ 1000000 := by rw [List.length_take]; omega
      have HA := Lib.hid (And.intro hA (And.intro hst (And.intro hul (And.intro hll hg.size)))); clear hA hst hul hll hgl
      go_wp2_with fail
      refine Calls.mono (unit9_ok n i wo hlt hn) ?_
      rintro e3 w3 ⟨v3, rfl, hg3, hO⟩
      have hOI : OwnIn (From wo.heap.size) w3 v3 (unitV n i) := OwnIn.of hO (by rw [HA.out.2.2.1]; omega) (fun k h1 _ => h1)
      obtain ⟨ga, gc, rfl, _, _⟩ := hOI.ints.shape
      go_wp2_with (first | (at_builtin; refine wp_app_row rfl _ _ rfl w.heap.size wo w3 v5 _ ((gensOf n).take i) (unitV n i) rfl HA.out.1 hg3 hOI rfl rfl HA.out.2.2.2.1 HA.out.2.2.2.2 ?_; intro v8 w8 hO8 hg8 _) | fail)
      have hgn8 : Ext w w8 := grown_own hg hg8 (fun j hj hlt => by have := (HA.out.1.lt j hj).1; omega)
      rw [← HA.out.2.1] at hO8
      go_roundw
      case rel => exact ⟨i + 1, v8, rfl, by go_num, by omega, hgn8, hO8⟩
      case measure => simp [intOf]; omega
    · have hie : i = n := by omega
      have hfin : RowsO w.heap.size wo v5 (gensOf n) := by
        have e : (gensOf n).take i = gensOf n := List.take_of_length_le (by omega)
        rw [e] at hA; exact hA
      have hnl : ¬ (i : Int) < (n : Int) := by omega
      go_wp2
      go_ret
      exact ⟨_, rfl, hg, hfin⟩

end Go.Proofs.YtoakmefajbbggaaGreat
namespace Go.Proofs.YtoakmefajbbggaaGreat
open Go.RowKit

set_option maxRecDepth 100000 in
set_option maxHeartbeats 2000000 in
theorem sOrder_ok (P : Pr) (hr : rconsB P = true) (w : World) (pv : Value) (Sp : Nat → Prop) (hpv : PresV Sp w pv P) :
    Calls Tryz.prog 83 #[pv] w (Ret w fun _ v => v = .tuple #[.int .i64 (ordP P), .int .i64 0]) := by
  have G := grp_of_r hr
  have hP := G.v
  obtain ⟨vo, vp, vc, rfl, h3⟩ := hpv
  have hp0 := PresP.box h3 28
  have hg0 : Ext w (w.alloc (.cells #[vo, vp, vc] 28)) := World.grownBy_alloc _ _ _
  obtain ⟨vo6, vp6, vc6, _, _, hc0, hc1, hc2, h36⟩ := hp0.at
  simp only [Nat.zero_add] at hc1 hc2
  have hE := sIsPresentation_ok (w.alloc (.cells #[vo, vp, vc] 28)) (.agg #[vo6, vp6, vc6]) P Any ⟨_, _, _, rfl, h36⟩
  have hv := validB_true hP
  rw [hv] at hE
  have hbx : ∀ w', Ext (w.alloc (.cells #[vo, vp, vc] 28)) w' → w'.cell? ⟨w.heap.size, 0, none⟩ = some vo6 := fun w' h => h.cell hc0 (by simp)
  have HB := Lib.hid hbx; clear hbx hv
  go_enter Tryz.func83, Tryz.ntmps83
  go_wp2_with fail
  clear hc0 hc1 hc2
  generalize w.alloc (.cells #[vo, vp, vc] 28) = w0 at *
  refine Calls.mono hE ?_
  rintro e1 w1 ⟨v1, rfl, hg1, rfl⟩
  clear hE
  have hb0 := HB.out w1 hg1
  have hob : ∀ i, i < P.orders.length → 1 ≤ gt P.orders i ∧ gt P.orders i ≤ 7 := fun i hi => by have := hP.ord7 i hi; omega
  have hpr := l07Product_ok w1 vo6 P.orders Any (h36.o.ext hg1) hob
  have hcap : capTo P.orders P.orders.length = ordP P := by
    have h := capTo_le P.orders.length (fun i hi => (hob i hi).1)
    have h2 := hP.le729
    exact h.2 (h.1.2 h2)
  rw [hcap] at hpr
  have HPR := Lib.hid hpr; clear hpr hcap hob
  go_wp2_with fail
  refine Calls.mono HPR.out ?_
  rintro _ _ ⟨rfl, rfl⟩
  go_wp2
  go_ret2
  exact ⟨_, rfl, grown_trans hg0 hg1, rfl⟩

set_option maxRecDepth 100000 in
set_option maxHeartbeats 1000000 in
theorem size9_ok (P : Pr) (hr : rconsB P = true) (w : World) (pv : Value) (Sp : Nat → Prop) (hpv : PresV Sp w pv P) :
    Calls Tryz.prog 29 #[pv] w (Ret w fun _ v => v = .int .i64 (ordP P)) := by
  have hrH := Lib.hid hr; clear hr
  obtain ⟨vo, vp, vc, rfl, h3⟩ := hpv
  have hp0 := PresP.box h3 28
  have hg0 : Ext w (w.alloc (.cells #[vo, vp, vc] 28)) := World.grownBy_alloc _ _ _
  obtain ⟨vo6, vp6, vc6, _, _, hc0, hc1, hc2, h36⟩ := hp0.at
  simp only [Nat.zero_add] at hc1 hc2
  clear hp0
  go_enter Tryz.func29, Tryz.ntmps29
  go_wp2_with fail
  clear hc0 hc1 hc2
  refine Calls.mono (sOrder_ok P hrH.out _ _ _ ⟨_, _, _, rfl, h36⟩) ?_
  rintro e1 w1 ⟨v1, rfl, hg1, rfl⟩
  go_wp2
  go_ret
  exact ⟨_, rfl, grown_trans hg0 hg1, rfl⟩

end Go.Proofs.YtoakmefajbbggaaGreat
namespace Go.Proofs.YtoakmefajbbggaaGreat
open Go.RowKit
attribute [local go_sem ↓] Go.wp_at_zero Go.wp_at_succ

theorem rr_zero {P : Pr} (h : rrC P = 0) : rconsB P = true ∧ ¬ 128 < ordP P := by
  cases hr : rconsB P with
  | false => rw [(rr_no hr).1] at h; omega
  | true =>
    refine ⟨rfl, fun hb => ?_⟩
    rw [(rr_big hr hb).1] at h; omega

set_option maxRecDepth 100000 in
set_option maxHeartbeats 8000000 in
theorem lawRr_ok (w : World) (cv : Value) (bs : List Int) (S : Nat → Prop) (hb : Bytes S w cv bs) :
    Calls Tryz.prog 5 #[cv] w (Ret w fun _ v => v = .bool true) := by
  obtain ⟨ca, cc, rfl, _, _⟩ := Sl.shape hb
  go_enter Tryz.func5, Tryz.ntmps5
  go_wp2_with fail
  refine Calls.mono (big_ok w _ bs S hb) ?_
  rintro _ _ ⟨rfl, rfl⟩
  by_cases hbg : 4096 < bs.length
  · have hd : decide (4096 < bs.length) = true := by simp [hbg]
    rw [hd]
    go_wp2
    go_ret
    exact ⟨_, rfl, grown_refl _ _, rfl⟩
  have hbl : bs.length ≤ 4096 := by omega
  have hd : decide (4096 < bs.length) = false := by simp [hbg]
  rw [hd]; clear hd hbg
  go_wp2_with fail
  refine Calls.mono (DrawRegularRealisation_ok w _ bs S hb) ?_
  rintro e1 w1 ⟨v1, rfl, hg1, vo, vp, vc, P, rfl, hPl, hP⟩
  obtain ⟨a1, n1, c1, hy1⟩ : ∃ a n c, vo = .slice a n c := by obtain ⟨a, c, e, _⟩ := hP.o.shape; exact ⟨_, _, _, e⟩
  obtain ⟨a2, n2, c2, hy2⟩ : ∃ a n c, vp = .slice a n c := by obtain ⟨a, c, e, _⟩ := Sl.shape hP.p; exact ⟨_, _, _, e⟩
  obtain ⟨a3, n3, c3, hy3⟩ : ∃ a n c, vc = .slice a n c := by obtain ⟨a, c, e, _⟩ := Sl.shape hP.c; exact ⟨_, _, _, e⟩
  subst hy1 hy2 hy3
  have hgX : Ext w1 (w1.alloc (.cells #[.slice a1 n1 c1, .slice a2 n2 c2, .slice a3 n3 c3] 28)) := World.grownBy_alloc _ _ _
  have hX := Box3.made w1 28 (.slice a1 n1 c1) (.slice a2 n2 c2) (.slice a3 n3 c3)
  have hPX := hP.ext hgX
  have hgw := grown_trans hg1 hgX
  have hbX := Bytes.ext hb hgw
  have HA0 := Lib.hid (And.intro hPX (And.intro hgw hbX)); clear hPX  hgw hbX hgX hP  hg1 hb
  obtain ⟨pb, hpb⟩ : ∃ pb, pb = w1.heap.size := ⟨_, rfl⟩
  rw [← hpb] at hX
  have HP := Lib.hid hpb; clear hpb
  go_wp2_with fail
  rw [← HP.out]
  generalize w1.alloc (.cells #[.slice a1 n1 c1, .slice a2 n2 c2, .slice a3 n3 c3] 28) = w2 at *
  clear HP
  have hall : ∀ w', Ext w2 w' → Box3 w' pb (.slice a1 n1 c1) (.slice a2 n2 c2) (.slice a3 n3 c3) ∧ PresV (From w.heap.size) w' (.agg #[.slice a1 n1 c1, .slice a2 n2 c2, .slice a3 n3 c3]) P ∧ Bytes S w' (.slice ca bs.length cc) bs :=
    fun w' h => ⟨hX.ext h, ⟨_, _, _, rfl, HA0.out.1.ext h⟩, Bytes.ext HA0.out.2.2 h⟩
  have HA := Lib.hid hall; clear hall hX
  have hgw := grown_refl w2 none
  obtain ⟨b0_, b1_, b2_, b3_, _⟩ := id (HA.out w2 hgw).1
  go_wp2_with fail
  clear b0_ b1_ b2_ b3_
  refine Calls.mono (iReg_ok P w2 _ _ (HA.out w2 hgw).2.1) ?_
  rintro e3 w3 ⟨v3, rfl, hg_, aa, an, ac, rfl, hA_⟩
  replace hgw := grown_trans hgw hg_
  have hAAr : Rows2 Any w3 (.slice aa an ac) (rrL P) := hA_
  have hAAx : ∀ w', Ext w3 w' → Rows2 Any w' (.slice aa an ac) (rrL P) := fun w' h => Rows2.ext hAAr h
  have HAA := Lib.hid hAAx; clear hAAr hAAx
  have hgAA := grown_refl w3 none
  clear hA_
  clear hg_
  obtain ⟨b0_, b1_, b2_, b3_, _⟩ := id (HA.out w3 hgw).1
  go_wp2_with fail
  clear b0_ b1_ b2_ b3_
  refine Calls.mono (sReg_ok P w3 _ _ (HA.out w3 hgw).2.1) ?_
  rintro e4 w4 ⟨v4, rfl, hg_, ta, tn, tc, rfl, hT_⟩
  replace hgw := grown_trans hgw hg_
  replace hgAA := grown_trans hgAA hg_
  have hTr : Rows2 Any w4 (.slice ta tn tc) (rrL P) := hT_
  have hTx : ∀ w', Ext w4 w' → Rows2 Any w' (.slice ta tn tc) (rrL P) := fun w' h => Rows2.ext hTr h
  have HT := Lib.hid hTx; clear hTr hTx
  have hgT := grown_refl w4 none
  clear hT_
  clear hg_
  go_wp2_with fail
  refine Calls.mono (like29_ok _ _ (rrL P) (rrL P) w4 Any Any (HAA.out w4 hgAA) (HT.out w4 hgT)) ?_
  rintro e5 w5 ⟨v5, rfl, hg_, rfl⟩
  replace hgw := grown_trans hgw hg_
  replace hgAA := grown_trans hgAA hg_
  replace hgT := grown_trans hgT hg_
  rw [show eqB (rrL P) (rrL P) = true from eqB_true.2 rfl]
  clear HT hgT
  clear hg_
  by_cases hz : rrC P = 0
  case neg =>
    have hzb : (rrC P != 0) = true := by simpa using hz
    clear hz
    generalize rrC P = cc at *
    go_wp2
    go_ret
    exact ⟨_, rfl, grown_trans HA0.out.2.1 hgw, rfl⟩
  obtain ⟨hr, h128⟩ := rr_zero hz
  have G := grp_of_r hr
  have hn6 := G.v.n6
  have hop := G.v.ordP_pos
  have h729 : ordP P ≤ 729 := G.v.le729
  rw [hz]
  rw [(rr_ok hr h128).2] at HAA
  obtain ⟨n, hn⟩ : ∃ n, n = P.orders.length := ⟨_, rfl⟩
  obtain rfl : n = an := by
    obtain ⟨a, c, e, _⟩ := Sl.shape (HAA.out _ hgAA)
    cases e; rw [hn, rgL_len]
  by_cases hn0 : n = 0
  · subst hn0
    go_wp2
    go_ret
    exact ⟨_, rfl, grown_trans HA0.out.2.1 hgw, rfl⟩
  have hn1 : 1 ≤ n ∧ n ≤ 6 := by omega
  have hnb : ((n : Int) == 0) = false := by simp; omega
  obtain ⟨N, hN⟩ : ∃ N, N = (ordP P).toNat := ⟨_, rfl⟩
  have hN1 : 1 ≤ N ∧ N ≤ 128 := by omega
  have hNo : ordP P = (N : Int) := by omega
  have hre := rr_real G (by omega)
  have hbij : ∀ b ∈ rgL P, BijL N b := by rw [hN]; exact rgL_bij G
  have hlen : (rgL P).length = n := by rw [rgL_len, hn]
  have hword := fun w (h : WordN n w) => rr_word G (w := w) (by rw [← hn]; exact h)
  have hevV := fun w (h : WordN n w) => rr_evV G (w := w) (by rw [← hn]; exact h)
  have hgens := gens_vec G
  rw [← hN] at hword
  rw [← hn] at hword hevV hgens
  have hgl : (gensOf n).length = n := by unfold gensOf; rw [List.length_map, List.length_range]
  have HH := Lib.hid (And.intro hre (And.intro hbij (And.intro hlen (And.intro hword (And.intro hevV (And.intro hgens (And.intro hgl (And.intro hNo hn)))))))); clear hre hbij hlen hword hevV hgens hgl hNo hn hN hz hn0 hop h729 hn6
  clear h128
  obtain ⟨b0_, b1_, b2_, b3_, _⟩ := id (HA.out w5 hgw).1
  go_wp2_with fail
  clear b0_ b1_ b2_ b3_
  refine Calls.mono (iReal_ok P w5 _ _ (rgL P) (by have := HH.out.2.2.1; omega) (fun b hb => by have := (HH.out.2.1 b hb).1; omega) _ _ (HA.out w5 hgw).2.1 (HAA.out w5 hgAA)) ?_
  rintro e6 w6 ⟨v6, rfl, hg_, rfl⟩
  replace hgw := grown_trans hgw hg_
  replace hgAA := grown_trans hgAA hg_
  rw [HH.out.1.1, HH.out.1.2]
  clear hg_
  clear hnb
  have hgw0 := hgw
  have hdA := hgAA.size
  have hdw := hgw.size
  have hgAA0 := hgAA
  have hgRO := grown_refl w6 none
  have hbW : Bytes (fun k => k < w6.heap.size) w6 (.slice ca bs.length cc) bs := Bytes.mono (HA.out w6 hgw).2.2 (fun k _ hlt => ⟨hlt, hlt, rfl⟩)
  go_wp2_with fail
  refine Calls.mono (rollS_ok w6 _ bs (fun k => k < w6.heap.size) 4 hbl hbW) ?_
  rintro e7 w7 ⟨v7, rfl, hg_, db, rfl, hdb, hDi⟩
  replace hgw := grown_trans hgw hg_
  replace hgAA := grown_trans hgAA hg_
  replace hgRO := grown_trans hgRO hg_
  have hdlt := hDi.lt
  have HDi := Lib.hid hDi; clear hDi hbW
  clear hg_
  have hgr0 := grown_refl w6 none
  replace hgr0 := grown_trans hgr0 hgRO
  obtain ⟨wD, rfl⟩ : ∃ wD : World, wD = w7 := ⟨_, rfl⟩
  have hga : Ext wD (wD.alloc (.cells #[] 2)) := World.grownBy_alloc _ _ _
  have hnil : Own wD.heap.size (wD.alloc (.cells #[] 2)) (.slice (some ⟨wD.heap.size, 0, none⟩) 0 0) [] := own_nil0 (Nat.le_refl _) rfl
  have hDn := HDi.out.ext hga
  have hgr1 := grown_trans hgr0 hga
  have HNI := Lib.hid (And.intro hnil (And.intro hga (And.intro hDn hgr1))); clear hnil hga hDn hgr1 hgr0
  clear hgw hgAA hdA hdw
  go_wp2_with fail
  refine Calls.mono (belowS_ok _ _ db 8 HNI.out.2.2.1 (by omega) (by omega)) ?_
  rintro eB wB ⟨vB, rfl, hgB, x8, rfl, hx80, hx81, hDB⟩
  obtain ⟨z8, rfl⟩ := Int.eq_ofNat_of_zero_le hx80
  have hgRB : Ext w6 wB := grown_own HNI.out.2.2.2 hgB (fun j hj hlt => by have := Option.some.inj hj; omega)
  have hOB : Own wD.heap.size wB (.slice (some ⟨wD.heap.size, 0, none⟩) 0 0) [] := HNI.out.1.ext hgB (.inr (fun e => by have e2 : some wD.heap.size = some db := e; have := Option.some.inj e2; omega))
  have hszB : wD.heap.size ≤ wB.heap.size := by have := HNI.out.2.1.size; have := hgB.size; omega
  have HB0 := Lib.hid (And.intro hOB hDB); clear hOB hDB hgB
  go_wp2
  go_loopw [11, 12] (fun wv kv wr => ∃ (z : Nat) (W : List Int) (v5 : Value), v5 = wv ∧ kv = .int .i64 (z : Int) ∧ z ≤ 7 ∧ Hid (W.length + z ≤ 7 ∧ WordN n W) ∧ Ext w6 wr ∧ wD.heap.size ≤ wr.heap.size ∧ Own wD.heap.size wr v5 W ∧ Hid (DiceS (fun k => k < w6.heap.size ∧ k < w6.heap.size) wr db)) (fun _ kv _ => (intOf kv).toNat)
  case atStart => exact ⟨z8, [], _, rfl, rfl, by omega, Lib.hid ⟨by simp; omega, WordN.nil n⟩, hgRB, hszB, HB0.out.1, Lib.hid HB0.out.2⟩
  case round =>
    clear HB0 hgRB hszB HNI HDi hx81 hx80
    obtain ⟨z, W, v5, rfl, rfl, hz7, hWz, hgr, hszr, hO, hDi⟩ := hrel
    by_cases hzp : 0 < z
    · obtain ⟨y, rfl⟩ : ∃ y, z = y + 1 := ⟨z - 1, by omega⟩
      have hzi : (0 : Int) < ((y + 1 : Nat) : Int) := by omega
      have HO := Lib.hid hO; clear hO
      go_wp2_with fail
      refine Calls.mono (belowS_ok _ wr db (n : Int) hDi.out (by omega) (by omega)) ?_
      rintro e5 w15 ⟨v5_, rfl, hg15, x, rfl, hx0, hx1, hD5⟩
      go_wp2_with fail
      refine Calls.mono (belowS_ok _ w15 db 2 hD5 (by omega) (by omega)) ?_
      rintro e6 w16 ⟨v6_, rfl, hg16, q, rfl, hq0, hq1, hD6⟩
      have hgR16 : Ext w6 w16 := grown_own (grown_own hgr hg15 (fun j hj hlt => by have := Option.some.inj hj; omega)) hg16 (fun j hj hlt => by have := Option.some.inj hj; omega)
      have hvd : v5.ownBlock = none ∨ v5.ownBlock ≠ some db := by
        cases e : v5.ownBlock with
        | none => exact .inl rfl
        | some b => exact .inr (fun e2 => by have h1 := (HO.out.lt b e).1; have := Option.some.inj e2; omega)
      have hO6 := (HO.out.ext hg15 hvd).ext hg16 hvd
      have hs6 : wD.heap.size ≤ w16.heap.size := by have := hg15.size; have := hg16.size; omega
      have hll : W.length ≤ 1000000 := by have := hWz.out.1; omega
      have hvb : ∀ b, v5.ownBlock = some b → wD.heap.size ≤ b := fun b hb => (HO.out.lt b hb).1
      have HX := Lib.hid (And.intro hO6 (And.intro hs6 (And.intro hll hvb))); clear hO6 hs6 hll hvb hvd hg15 hg16 hD5
      have HD6 := Lib.hid hD6; clear hD6
      have hnext : ∀ (c : Int) w8 v8, ((1 ≤ c ∧ c ≤ n) ∨ (-(n : Int) ≤ c ∧ c ≤ -1)) → Own wD.heap.size w8 v8 (W ++ [c]) → w16.grownBy w8 v5.ownBlock → ∃ (z : Nat) (W' : List Int) (v9 : Value), v9 = v8 ∧ Value.int .i64 (y : Int) = .int .i64 (z : Int) ∧ z ≤ 7 ∧ Hid (W'.length + z ≤ 7 ∧ WordN n W') ∧ Ext w6 w8 ∧ wD.heap.size ≤ w8.heap.size ∧ Own wD.heap.size w8 v9 W' ∧ Hid (DiceS (fun k => k < w6.heap.size ∧ k < w6.heap.size) w8 db) := fun c w8 v8 hc hO8 hg8 => by
        refine ⟨y, W ++ [c], v8, rfl, rfl, by omega, Lib.hid ⟨by have := hWz.out.1; rw [List.length_append, List.length_singleton]; omega, hWz.out.2.app (fun l hl => by rw [List.mem_singleton.1 hl]; exact hc)⟩, grown_own hgR16 hg8 (fun j hj hlt => by have := HX.out.2.2.2 j hj; omega), by have := HX.out.2.1; have := hg8.size; omega, hO8, Lib.hid (HD6.out.own hg8 (fun b hb => ?_))⟩
        have := HX.out.2.2.2 b hb
        exact ⟨fun h => by omega, by omega⟩
      have HNX := Lib.hid hnext; clear hnext
      by_cases hq : q = 0
      · subst hq
        go_wp2_with (first | (at_builtin; refine wp_app_int rfl _ _ rfl wD.heap.size v5 W _ rfl w16 HX.out.1 rfl rfl HX.out.2.2.1 HX.out.2.1 ?_; intro v8 w8 hO8 hg8) | fail)
        have hn8 := HNX.out _ _ _ (by omega) hO8 hg8
        go_roundw
        case rel => exact hn8
        case measure => simp [intOf]
      · have hqb : (q == 0) = false := by simp [hq]
        go_wp2_with (first | (at_builtin; refine wp_app_int rfl _ _ rfl wD.heap.size v5 W _ rfl w16 HX.out.1 rfl rfl HX.out.2.2.1 HX.out.2.1 ?_; intro v8 w8 hO8 hg8) | fail)
        have hn8 := HNX.out _ _ _ (by omega) hO8 hg8
        go_roundw
        case rel => exact hn8
        case measure => simp [intOf]
    · have hz0 : z = 0 := by omega
      subst hz0
      have hWn := hWz.out.2
      have hWl : W.length ≤ 7 := by have := hWz.out.1; omega
      have hWi := hO.ints (by omega)
      obtain ⟨wl, hwl⟩ : ∃ wl, wl = W.length := ⟨_, rfl⟩
      obtain ⟨va, vc_, rfl, _, _⟩ := hWi.shape
      rw [← hwl] at hWi hO ⊢
      have hgw := grown_trans hgw0 hgr
      have hgAA := grown_trans hgAA0 hgr
      obtain ⟨w8, rfl⟩ : ∃ wo : World, wo = wr := ⟨_, rfl⟩
      have hWx : ∀ w', Ext w8 w' → Ints Any w' (.slice va wl vc_) W := fun w' h => Ints.ext hWi h
      have hgW := grown_refl w8 none
      have hbB : BijL N (evB N (rgL P) W W.length) := evB_bij HH.out.2.1 (by rw [HH.out.2.2.1]; exact hWn) _ (Nat.le_refl _)
      have hw0 := HH.out.2.2.2.1 W hWn
      have hXV := HH.out.2.2.2.2.1 W hWn
      have HW := Lib.hid (And.intro hWx (And.intro hWn (And.intro hWl (And.intro hbB (And.intro hw0 (And.intro hXV hwl)))))); clear hWx hWn hWl hbB hw0 hXV hwl hWi hO hWz hzp hDi hszr hz7 hgr
      go_wp2_with fail
      refine Calls.mono (iEval_ok (N := N) (L := rgL P) HH.out.2.1 hN1.2 (by have := HH.out.2.2.1; omega) (by have := HH.out.2.2.1; omega) (by rw [HH.out.2.2.1]; exact HW.out.2.1) (by have := HW.out.2.2.1; omega) w8 _ _ Any Any (HW.out.1 w8 hgW) (HAA.out w8 hgAA)) ?_
      rintro e9 w9 ⟨v9, rfl, hg_, ba, bn, bc, rfl, hB_⟩
      replace hgw := grown_trans hgw hg_
      replace hgAA := grown_trans hgAA hg_
      replace hgW := grown_trans hgW hg_
      obtain ⟨Bv, hBv⟩ : ∃ Bv, Bv = evB N (rgL P) W W.length := ⟨_, rfl⟩
      obtain ⟨X, hX⟩ : ∃ X, X = evalTo P (gensOf n) W W.length := ⟨_, rfl⟩
      have hbB := HW.out.2.2.2.1
      have hw0 := HW.out.2.2.2.2.1
      have hXV := HW.out.2.2.2.2.2.1
      rw [← hBv] at hB_ hbB hw0
      rw [← hX] at hw0 hXV
      obtain rfl : N = bn := by
        obtain ⟨a, c, e, _⟩ := hB_.shape
        cases e; exact hbB.1.symm
      have HBX := Lib.hid (And.intro hbB (And.intro hw0 (And.intro hXV hX))); clear hbB hw0 hXV hX hBv
      have hBr : Ints Any w9 (.slice ba N bc) (Bv) := hB_
      have hBx : ∀ w', Ext w9 w' → Ints Any w' (.slice ba N bc) (Bv) := fun w' h => Ints.ext hBr h
      have HB := Lib.hid hBx; clear hBr hBx
      have hgB := grown_refl w9 none
      clear hB_
      clear hg_
      have hn1e : n1 = n := by
        obtain ⟨vo, vp, vc, e, h3⟩ := (HA.out w9 hgw).2.1
        obtain ⟨a, c, e2, _⟩ := h3.o.shape
        have e3 : (Value.slice a1 n1 c1) = vo := by have := congrArg (fun v => match v with | .agg vs => vs[0]? | _ => none) e; simpa using this
        rw [← e3] at e2
        cases e2; exact HH.out.2.2.2.2.2.2.2.2.symm
      subst hn1e
      have f1_ : ∀ w', Ext w9 w' → w'.cell? ⟨pb, 0, none⟩ = some (.slice a1 n1 c1) := fun w' h => (HA.out w' (grown_trans hgw h)).1.2.1
      have f2_ : ∀ w', Ext w9 w' → w'.cell? ⟨pb, 1, none⟩ = some (.slice a2 n2 c2) := fun w' h => (HA.out w' (grown_trans hgw h)).1.2.2.1
      have f3_ : ∀ w', Ext w9 w' → w'.cell? ⟨pb, 2, none⟩ = some (.slice a3 n3 c3) := fun w' h => (HA.out w' (grown_trans hgw h)).1.2.2.2.1
      go_wp2
      go_region_held3 (fun w' => Ext w9 w') (first | exact grown_drew _ _ | assumption)
        (first
          | (go_at_call 13; refine Calls.mono (Calls.rel (w0 := w9) (by assumption) (iEw_ok P hr _ _ _ _ W (gensOf n1) _ _ _ (HA.out _ (grown_trans hgw (by assumption))).2.1 (HW.out.1 _ (grown_trans hgW (by assumption))) hUi HH.out.2.2.2.2.2.1 (by rw [HH.out.2.2.2.2.2.2.1]; omega) (by rw [HH.out.2.2.2.2.2.2.1]; exact HW.out.2.1) (by have := HW.out.2.2.1; omega))) ?_; rintro e10 w10 ⟨v10, rfl, hg_, _, xa, xn, xc, rfl, hX_⟩)
          | (go_at_call 14; refine Calls.mono (Calls.rel2 (w0 := w9) (by assumption) (units9_ok n1 _ (by omega))) ?_; rintro eM wM ⟨vM, rfl, hgM, _, _, hM_⟩; have hUi : Rows2 Any wM vM (gensOf n1) := Rows2.sub (RowsD.rows (SlO.toD hM_ (by rw [HH.out.2.2.2.2.2.2.1]; omega))) (fun _ _ _ => trivial); obtain ⟨ua, uc, hus, _⟩ := Sl.shape hUi; subst hus))
      clear f1_ f2_ f3_
      replace hgw := grown_trans hgw hg_
      replace hgW := grown_trans hgW hg_
      replace hgB := grown_trans hgB hg_
      rw [← HBX.out.2.2.2] at hX_
      have hXr : Ints Any w10 (.slice xa xn xc) (X) := hX_.ints (by rw [HBX.out.2.2.1.1]; omega)
      have hXx : ∀ w', Ext w10 w' → Ints Any w' (.slice xa xn xc) (X) := fun w' h => Ints.ext hXr h
      have HX := Lib.hid hXx; clear hXr hXx
      have hgX := grown_refl w10 none
      clear hX_ hUi hM_ hgM hg_
      obtain ⟨b0_, b1_, b2_, b3_, _⟩ := id (HA.out w10 hgw).1
      go_wp2_with fail
      clear b0_ b1_ b2_ b3_
      refine Calls.mono (iNumE_ok P hr w10 _ _ X _ _ (HA.out w10 hgw).2.1 (HX.out w10 hgX) HBX.out.2.2.1) ?_
      rintro e11 w11 ⟨v11, rfl, hg_, rfl⟩
      replace hgw := grown_trans hgw hg_
      replace hgB := grown_trans hgB hg_
      replace hgX := grown_trans hgX hg_
      obtain ⟨q, hq⟩ : ∃ q, q = num P X := ⟨_, rfl⟩
      rw [← hq]
      have HQ := Lib.hid hq; clear hq HX hgX
      clear hg_
      obtain ⟨b0_, b1_, b2_, b3_, _⟩ := id (HA.out w11 hgw).1
      go_wp2_with fail
      clear b0_ b1_ b2_ b3_
      refine Calls.mono (size9_ok P hr w11 _ _ (HA.out w11 hgw).2.1) ?_
      rintro e12 w12 ⟨v12, rfl, hg_, rfl⟩
      replace hgw := grown_trans hgw hg_
      replace hgB := grown_trans hgB hg_
      rw [HH.out.2.2.2.2.2.2.2.1]
      obtain ⟨bb, bo, hbe, _, _, hbc⟩ := Ints.at (HB.out w12 hgB) 0 (by rw [HBX.out.1.1]; omega)
      subst hbe
      rw [HBX.out.2.1, ← HQ.out, Nat.add_zero] at hbc
      have hN0 : (0 : Int) < (N : Int) := by omega
      clear hg_
      go_wp2_with fail
      refine Calls.mono (iInvert_ok hN1.2 HBX.out.1 w12 _ Any (HB.out w12 hgB)) ?_
      rintro e13 w13 ⟨v13, rfl, hg_, ra, rn, rc, rfl, hR_⟩
      replace hgw := grown_trans hgw hg_
      replace hgB := grown_trans hgB hg_
      have hRr : Ints Any w13 (.slice ra rn rc) (bak Bv) := hR_
      have hRx : ∀ w', Ext w13 w' → Ints Any w' (.slice ra rn rc) (bak Bv) := fun w' h => Ints.ext hRr h
      have HR := Lib.hid hRx; clear hRr hRx
      have hgR := grown_refl w13 none
      clear hR_ hbc hN0
      clear hg_
      go_wp2_with fail
      refine Calls.mono (iCompose_ok N Bv (bak Bv) hN1.2 HBX.out.1 HBX.out.1.bak w13 _ _ Any Any (HB.out w13 hgB) (HR.out w13 hgR)) ?_
      rintro e14 w14 ⟨v14, rfl, hg_, da, dn, dc, rfl, hD_⟩
      replace hgw := grown_trans hgw hg_
      replace hgB := grown_trans hgB hg_
      replace hgR := grown_trans hgR hg_
      rw [aft_bak HBX.out.1] at hD_
      obtain rfl : N = dn := by
        obtain ⟨a, c, e, _⟩ := hD_.shape
        cases e; exact (selfL_len N).symm
      have hDr : Ints Any w14 (.slice da N dc) (selfL N) := hD_
      have hDx : ∀ w', Ext w14 w' → Ints Any w' (.slice da N dc) (selfL N) := fun w' h => Ints.ext hDr h
      have HD := Lib.hid hDx; clear hDr hDx
      have hgD := grown_refl w14 none
      clear hD_ HR hgR HB hgB
      clear hg_
      obtain ⟨wk, rfl⟩ : ∃ wk : World, wk = w14 := ⟨_, rfl⟩
      go_wp2
      go_loopw [24] (fun tv wr => ∃ t : Nat, tv = .int .i64 (t : Int) ∧ t ≤ N ∧ Ext wk wr) (fun tv _ => N - (intOf tv).toNat)
      case atStart => exact ⟨0, rfl, by omega, grown_refl _ _⟩
      case round =>
        obtain ⟨t, rfl, ht, hg⟩ := hrel
        by_cases hlt : t < N
        · have hlt' : (t : Int) < N := by omega
          obtain ⟨tb, tf_, hte, _, _, htc⟩ := Ints.at (HD.out wr hg) t (by rw [selfL_len]; exact hlt)
          subst hte
          rw [gt_selfL hlt] at htc
          go_wp2
          go_roundw
          case rel => exact ⟨t + 1, by go_num, by omega, hg⟩
          case measure => simp [intOf]; omega
        · have hnl : ¬ (t : Int) < (N : Int) := by omega
          go_wp2
          go_ret
          exact ⟨_, rfl, grown_trans HA0.out.2.1 (grown_trans hgw hg), rfl⟩

end Go.Proofs.YtoakmefajbbggaaGreat
namespace Go.Proofs.YtoakmefajbbggaaGreat
open Go.RowKit Go.ChangeShapes Go.WideShapes Go.Deep

section
variable {H : Type} {enc : TypeId × Value → H} {W : World} {sp : Nat → Bool}

/-- a slice that was read is one of this claim's slices -/
theorem open_sl {α : Type} [Inhabited α] {El : World → Value → α → Prop} {t e : TypeId} (ht : Tryz.prog.underlying t = some (.slice e)) (hc : Tryz.prog.cellsOf e = 1)
    (hEl : ∀ n c x, DataW.trod enc Tryz.prog W 0 sp true n e [c] = some x → ∃ y, El W c y) {fuel : Nat} {c : Value} {x : DataW H × List MemPlace} (h : DataW.trod enc Tryz.prog W 0 sp true fuel t [c] = some x) :
    ∃ xs : List α, Sl El Any W c xs := by
  rcases open_slice1 ht hc h with ⟨hcs, _⟩ | ⟨a, len, cap, m, n, V, D, Pl, hcs, _, hl, hm, hmm, _, hx⟩
  · cases hcs
    exact ⟨[], none, 0, rfl, ⟨by simp, by simp, fun _ => rfl⟩, fun i hi => by simp at hi⟩
  · cases hcs
    have hlm : len ≤ m := by rw [hmm]; split <;> omega
    obtain ⟨Z, hZ⟩ := choose_lt (α := α) (n := len) (p := fun i y => El W (V i) y) (fun i hi => hEl n (V i) _ (hx i (by omega)).2)
    refine ⟨(List.range len).map Z, some a, cap, by simp, ⟨by simpa using hl, by simp; unfold maxLen at hm; omega, fun h => by cases h⟩, fun i hi => ?_⟩
    simp only [List.length_map, List.length_range] at hi
    obtain ⟨h1, h2⟩ := hx i (by omega)
    obtain ⟨b, off, spot⟩ := a
    have hs : spot = none := by
      have h0 := (hx 0 (by omega)).1
      exact World.cell?_spot (by simpa [Addr.add] using h0)
    subst hs
    have hcell : W.cell? ⟨b, off + i, none⟩ = some (V i) := by
      have e : (⟨b, off, none⟩ : Addr).add i = ⟨b, off + i, none⟩ := by
        unfold Addr.add; split
        · rename_i h; subst h; rfl
        · rfl
      rw [← e]; exact h1
    refine ⟨b, off, V i, rfl, trivial, World.block_lt_of_cell? W _ hcell, hcell, ?_⟩
    have : gt ((List.range len).map Z) i = Z i := by simp [gt, hi]
    rw [this]; exact hZ i hi

end

end Go.Proofs.YtoakmefajbbggaaGreat
namespace Go.Proofs.YtoakmefajbbggaaGreat
open Go.RowKit Go.ChangeShapes Go.WideShapes Go.ChangeAt

theorem ownB : ownKnob Tryz.prog.godebug = none := by kernel_rfl
theorem laidOutP : laidOutB Tryz.prog = true := by kernel_rfl
theorem und_u8 : Tryz.prog.underlying 5 = some (.int .u8) := by kernel_rfl
theorem und_bytesB : Tryz.prog.underlying 22 = some (.slice 5) := by kernel_rfl
theorem cells_u8 : Tryz.prog.cellsOf 5 = 1 := by kernel_rfl

theorem open_u8 {H : Type} {enc : TypeId × Value → H} {W : World} {sp : Nat → Bool} {n : Nat} {c : Value} {x : DataW H × List MemPlace} (h : DataW.trod enc Tryz.prog W 0 sp true n 5 [c] = some x) : ∃ y, ByteEl W c y := by
  cases n with
  | zero => simp [DataW.trod] at h
  | succ n =>
    unfold DataW.trod at h
    rw [und_u8] at h
    cases c <;> simp at h
    rename_i k z
    obtain ⟨⟨rfl, hz⟩, _⟩ := h
    have hz2 : 0 ≤ z ∧ z ≤ 255 := by
      have h2 := hz
      simp [Lit.wf, IntKind.min, IntKind.max, IntKind.signed, IntKind.bits] at h2
      omega
    exact ⟨z, rfl, hz2⟩
theorem open_bytes {H : Type} {enc : TypeId × Value → H} {W : World} {sp : Nat → Bool} {n : Nat} {c : Value} {x : DataW H × List MemPlace} (h : DataW.trod enc Tryz.prog W 0 sp true n 22 [c] = some x) : ∃ l, Bytes Any W c l :=
  open_sl (El := ByteEl) und_bytesB cells_u8 (fun _ _ _ h => open_u8 h) h

end Go.Proofs.YtoakmefajbbggaaGreat
namespace Go.Proofs.YtoakmefajbbggaaGreat.RowRrOf
open Go.RowKit Go.ChangeShapes Go.WideShapes Go.ChangeAt

set_option maxRecDepth 100000 in
set_option maxHeartbeats 1000000 in
theorem lifted (os : Os) (started : os.Started) (H : Type) (enc : TypeId × Value → H) :
    ReturnsInHanded {} Tryz.checked os 5 .any (Rows.fnRealisedSpec.pre6 enc Tryz.prog Tryz.f5 Rows.fnRealisedRow.domain false) (Rows.fnRealisedSpec.post enc Tryz.prog Tryz.f5 false true false false) := by
  refine returnsInHanded_of_change (C := Tryz.checked) (s := Rows.fnRealisedSpec) ownB started (by kernel_rfl) Tryz.func5
    (ChangeSpec.witness6 (enc := enc) (C := Tryz.checked) (s := Rows.fnRealisedSpec) false ⟨#[], #[.slice none 0 0], []⟩ 8 (by kernel_rfl) (by kernel_rfl) (by kernel_rfl) (by kernel_rfl) (by kernel_rfl)) ?_
  intro W base args ds gs before hval0 hW _ _
  have hW' := hW
  obtain ⟨p, q, hA0, hV, rfl, _, _⟩ := hW
  have hA : DataW.TrodAll enc Tryz.prog W 0 (fun _ => true) true Tryz.f5.params.toList args.toList ds p := hA0
  rw [Tryz.params5] at hA
  obtain ⟨v0, vs0, d0, ds0, p0, q0, hargs, rfl, rfl, h0, r0⟩ := trodAll_cons hA
  obtain ⟨rfl, rfl, rfl⟩ := trodAll_nil r0
  obtain rfl : args = #[v0] := by cases args; simp_all
  obtain ⟨rfl, rfl⟩ := trodVars_none hV
  have hval : Value.okWide Tryz.prog W .any base 22 v0 := hval0 0 _ _ (by rw [Tryz.params5]; rfl) rfl
  obtain ⟨b0, n0, c0, rfl⟩ := okWide_slice und_bytesB hval
  obtain ⟨f0, hf0⟩ := h0
  obtain ⟨l, hP⟩ := open_bytes (c := .slice b0 n0 c0) hf0
  have hlt : ∀ x ∈ p0, x.block < W.heap.size := fun x hx => by simpa using hW'.lt x (by simpa using hx)
  clear hA0
  simp only [List.append_nil] at hW'
  refine (lawRr_ok W (.slice b0 n0 c0) l Any hP).mono fun e W' ⟨v, he, hg, hv⟩ => ?_
  subst he; subst hv
  have hb : Below W.heap.size W W' := hg.below
  have hargs2 := Below.trod laidOutP (by kernel_rfl) (of_decide_eq_true (by kernel_rfl)) ⟨f0, hf0⟩ hb hlt
  exact ⟨_, rfl, [d0], [], p0, [], p0, [], hW', trodAll_mk1 (shut_bool Tryz.underlying4 _), trodAll_mk1 hargs2, rfl, hb.frame _, fun h => by cases h⟩

theorem c0 : Rows.fnRealisedRow.wf (OpenSpec.ofChange Rows.fnRealisedSpec) = true := by kernel_rfl
theorem c1 : laidOutB Tryz.pinned.checked.prog = true := by kernel_rfl
theorem c2 : mapsRowed Tryz.pinned.checked.prog = true := by kernel_rfl
theorem c3 : Tryz.f5.params.all (Tryz.pinned.checked.prog.readableRec ·) = true := by kernel_rfl
theorem c4 : namedTie Tryz.pinned.checked.prog Rows.fnRealisedRow.named Rows.fnRealisedSpec.vars = true := by kernel_rfl
theorem c5 : (Rows.fnRealisedRow.stops == []) = true := by kernel_rfl
theorem c6 : (Tryz.pinned.checked.prog.stops == []) = true := by kernel_rfl
theorem c7 : (Rows.fnRealisedRow.knobs == []) = true := by kernel_rfl
theorem c8 : (Tryz.pinned.checked.prog.stopKnobs == []) = true := by kernel_rfl
theorem c9 : (Rows.fnRealisedRow.inPlace == Tryz.pinned.checked.prog.inPlace 5) = true := by kernel_rfl
theorem c10 : (Rows.fnRealisedRow.unfollowed == Tryz.pinned.checked.prog.unfollowed 5) = true := by kernel_rfl
theorem c11 : (Rows.fnRealisedRow.recurses == Tryz.pinned.checked.prog.recurses 5) = true := by kernel_rfl
theorem c12 : (Rows.fnRealisedRow.named == Tryz.pinned.checked.prog.varsNamed 5) = true := by kernel_rfl
theorem c13 : (Rows.fnRealisedRow.maps == (Tryz.f5.params.toList ++ Rows.fnRealisedSpec.plain.varTypes Tryz.pinned.checked.prog).any (Tryz.pinned.checked.prog.mapsRec ·)) = true := by kernel_rfl
theorem c14 : (Rows.fnRealisedRow.ifaces == (Tryz.f5.params.toList ++ Rows.fnRealisedSpec.plain.varTypes Tryz.pinned.checked.prog).any (Tryz.pinned.checked.prog.ifacesRec ·)) = true := by kernel_rfl
theorem c15 : (Rows.fnRealisedRow.mapsOut == Tryz.pinned.checked.prog.mapsAmong Tryz.f5.resultTypes.toList) = true := by kernel_rfl
theorem c16 : (Rows.fnRealisedRow.loops == (Tryz.f5.params.toList ++ Rows.fnRealisedSpec.plain.varTypes Tryz.pinned.checked.prog).any (Tryz.pinned.checked.prog.loopsFrom ·)) = true := by kernel_rfl
theorem c17 : (Rows.fnRealisedRow.wideKeys == (Tryz.f5.params.toList ++ Rows.fnRealisedSpec.plain.varTypes Tryz.pinned.checked.prog ++ Tryz.f5.resultTypes.toList).any (Tryz.pinned.checked.prog.wideKeysFrom ·)) = true := by kernel_rfl
theorem c18 : Rows.fnRealisedSpec.vars.all (Tryz.pinned.checked.prog.varReadable ·) = true := by kernel_rfl
theorem c19 : Tryz.f5.resultTypes.all (fun t => Tryz.pinned.checked.prog.readableRec t && decide (t < Tryz.pinned.checked.prog.types.size)) = true := by kernel_rfl
theorem c20 : (Rows.fnRealisedRow.ifacesOut == Tryz.f5.resultTypes.toList.any (Tryz.pinned.checked.prog.ifacesRec ·)) = true := by kernel_rfl
theorem c21 : (Rows.fnRealisedRow.loopsOut == Tryz.f5.resultTypes.toList.any (Tryz.pinned.checked.prog.loopsFrom ·)) = true := by kernel_rfl
theorem c22 : (Rows.fnRealisedRow.plainKeys == Tryz.pinned.checked.prog.plainKeys) = true := by kernel_rfl
theorem c23 : Rows.fnRealisedRow.shortTexts.isNone = true := by kernel_rfl
theorem c24 : Tryz.pinned.checked.prog.stopsHeard = true := by kernel_rfl
theorem c25 : Tryz.pinned.checked.prog.mayEnter = true := by kernel_rfl
theorem c26 : (Rows.fnRealisedRow.lifted == Tryz.pinned.checked.prog.liftsFinal) = true := by kernel_rfl
theorem c27 : (Tryz.pinned.checked.prog.make == some Rows.fnRealisedRow.make) = true := by kernel_rfl
theorem c28 : (Rows.fnRealisedRow.kinds == (if Rows.fnRealisedRow.domain.isEmpty then [] else Tryz.f5.params.toList.map fun t => match Tryz.pinned.checked.prog.underlying t with | some (.int k) => some k | _ => none)) = true := by kernel_rfl
theorem c29 : (Rows.fnRealisedRow.pinned == Rows.fnRealisedRow.pinnedBy) = true := by kernel_rfl
theorem c30 : (Rows.fnRealisedRow.veiled == (Tryz.f5.params.toList ++ Rows.fnRealisedSpec.plain.varTypes Tryz.pinned.checked.prog ++ Tryz.f5.resultTypes.toList).any (Tryz.pinned.checked.prog.veiledRec ·)) = true := by kernel_rfl
theorem c31 : Rows.fnRealisedRow.veiledFits Tryz.pinned.checked.prog Tryz.f5.params.toList (Tryz.f5.params.toList ++ Rows.fnRealisedSpec.plain.varTypes Tryz.pinned.checked.prog ++ Tryz.f5.resultTypes.toList) = true := by kernel_rfl
set_option maxRecDepth 1000000 in
theorem facts : joinedFacts Tryz.pinned.checked.prog 5 Tryz.f5 Rows.fnRealisedSpec Rows.fnRealisedRow = true :=
  Bool.and_eq_true_iff.2 ⟨Bool.and_eq_true_iff.2 ⟨Bool.and_eq_true_iff.2 ⟨Bool.and_eq_true_iff.2 ⟨Bool.and_eq_true_iff.2 ⟨Bool.and_eq_true_iff.2 ⟨Bool.and_eq_true_iff.2 ⟨Bool.and_eq_true_iff.2 ⟨Bool.and_eq_true_iff.2 ⟨Bool.and_eq_true_iff.2 ⟨Bool.and_eq_true_iff.2 ⟨Bool.and_eq_true_iff.2 ⟨Bool.and_eq_true_iff.2 ⟨Bool.and_eq_true_iff.2 ⟨Bool.and_eq_true_iff.2 ⟨Bool.and_eq_true_iff.2 ⟨Bool.and_eq_true_iff.2 ⟨Bool.and_eq_true_iff.2 ⟨Bool.and_eq_true_iff.2 ⟨Bool.and_eq_true_iff.2 ⟨Bool.and_eq_true_iff.2 ⟨Bool.and_eq_true_iff.2 ⟨Bool.and_eq_true_iff.2 ⟨Bool.and_eq_true_iff.2 ⟨Bool.and_eq_true_iff.2 ⟨Bool.and_eq_true_iff.2 ⟨Bool.and_eq_true_iff.2 ⟨Bool.and_eq_true_iff.2 ⟨Bool.and_eq_true_iff.2 ⟨Bool.and_eq_true_iff.2 ⟨Bool.and_eq_true_iff.2 ⟨c0, c1⟩, c2⟩, c3⟩, c4⟩, c5⟩, c6⟩, c7⟩, c8⟩, c9⟩, c10⟩, c11⟩, c12⟩, c13⟩, c14⟩, c15⟩, c16⟩, c17⟩, c18⟩, c19⟩, c20⟩, c21⟩, c22⟩, c23⟩, c24⟩, c25⟩, c26⟩, c27⟩, c28⟩, c29⟩, c30⟩, c31⟩

theorem proved : Rows.FnRealisedSaid :=
  OpenClaim.holds_of_wide 5 Tryz.f5 rfl rfl rfl rfl rfl rfl rfl ⟨rfl, rfl, rfl, rfl, rfl⟩ rfl rfl rfl rfl rfl (by kernel_rfl) Tryz.func5 facts
    (of_decide_eq_true (by kernel_rfl)) (by unfold Func.isWrapper; first | (rw [if_pos (by decide +kernel)]; kernel_rfl) | (rw [if_neg (by decide +kernel)]; exact ⟨rfl, rfl⟩))
    (fun os started H enc _ => lifted os started H enc)
#print axioms proved
end Go.Proofs.YtoakmefajbbggaaGreat.RowRrOf
