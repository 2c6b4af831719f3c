/-
  impl.IsBijection, ComposeBijections on bijections.
  The laws' comparisons: laws.eqInt64SS, eqInt64SSS, eqPresentation.
  laws.likeInts, like29, like39: whether two lists are alike (printed by gen_like.py).
  laws.roll, below, draw9: numbers that follow from the bytes.
  laws.size9, impl.ElementAt on a group.
  impl.areElements.
  impl.Multiply, Inverse, Commutator on elements (printed by gen_elw.py).
  impl.MemberExponents, MemberElement on members of a subgroup; laws.mul9, inv9 (printed by gen_mex2.py).
  laws.FnCosetActions answers true (printed by gen_lca.py).
  The rows' arguments: how a presentation that came in, or a list, reads in this claim's words.
  Opening the argument of a row over bytes.
  laws.FnCosetActions holds: whatever the bytes, the law answers true and the bytes read as they did. No condition. (Printed by gen_rowb.py.)
-/
import Derived.Test.YtmjkoejegfjbbaaGreatC1
import Derived.Test.YtmjkoejegfjbbaaGreatC10
import Derived.Test.YtmjkoejegfjbbaaGreatC12
import Derived.Test.YtmjkoejegfjbbaaGreatC17
import Derived.Test.YtmjkoejegfjbbaaGreatC18
import Derived.Test.YtmjkoejegfjbbaaGreatC19
import Derived.Test.YtmjkoejegfjbbaaGreatC3
import Derived.Test.YtmjkoejegfjbbaaGreatC5
import Derived.Test.YtmjkoejegfjbbaaGreatC8
import Derived.Test.YtmjkoejegfjbbaaGreatC9
import Derived.Deep.RegionHeld3
import Derived.Laws.BitsAllLaws
import Derived.StillTailTactics
import Derived.Carry
import Derived.Deep.Slices
import Derived.ChangeSame
import Derived.ChangeSlices
import Derived.JoinedOf
import Derived.JoinedAt
import Derived.JoinedCond
import Derived.ReadAgain
namespace Go.Proofs.YtmjkoejegfjbbaaGreat
open Go.RowKit
open Classical in
set_option maxRecDepth 100000 in
set_option maxHeartbeats 1000000 in
theorem IsBijection_ok {N : Nat} {a : List Int} (h128 : N ≤ 128) (ha : BijL N a) (w : World) (v : Value) (S : Nat → Prop) (hv : Ints S w v a) :
  Calls Tryz.prog 39 #[v] w (Ret w fun _ r => r = .bool true) := by
 have hcon := isBijection_ok a (by rw [ha.1]; omega) w v S hv
 have hd : decide (BijL a.length a) = true := decide_eq_true (by rw [ha.1]; exact ha)
 obtain ⟨av, cap, rfl, _, _⟩ := hv.shape
 have hl := ha.1
 have hl1 : (a.length : Int) ≤ 128 := by omega
 have HC := Lib.hid (And.intro hcon hd); clear hcon hd ha hv hl
 go_enter Tryz.func39, Tryz.ntmps39
 go_wp2_with fail
 refine Calls.mono HC.out.1 ?_
 rintro e1 w1 ⟨v1, rfl, hg1, rfl⟩
 go_wp2
 go_ret
 exact ⟨_, rfl, hg1, by rw [HC.out.2]; rfl⟩
set_option maxRecDepth 100000 in
set_option maxHeartbeats 2000000 in
theorem iCompose_ok (N : Nat) (a b : List Int) (h128 : N ≤ 128) (ha : BijL N a) (hb : BijL N b) (w : World) (v u : Value) (S T : Nat → Prop) (hv : Ints S w v a) (hu : Ints T w u b) :
  Calls Tryz.prog 49 #[v, u] w (Ret w fun w' r => ∃ p n c, r = .tuple #[.slice p n c, .int .i64 0] ∧ Ints Any w' (.slice p n c) (aft a b)) := by
 have h1 := IsBijection_ok h128 ha w v S hv
 have h2 := fun w' (hg : Ext w w') => IsBijection_ok h128 hb w' u T (Ints.ext hu hg)
 have h3 := fun w' (hg : Ext w w') => compose_ok a b (by rw [ha.1]; omega) (fun t ht => by rw [hb.1]; exact ha.2.1 t (by rw [← ha.1]; exact ht)) w' v u S T (Ints.ext hv hg) (Ints.ext hu hg)
 obtain ⟨av, cap, rfl, _, _⟩ := hv.shape
 obtain ⟨bv, capb, rfl, _, _⟩ := hu.shape
 have hla : a.length = N := ha.1
 have hlb : b.length = N := hb.1
 rw [hla, hlb] at h3
 rw [hla] at h1 ⊢
 rw [hlb] at h2 ⊢
 have hal : (aft a b).length ≤ 1000 := by rw [aft_len]; omega
 have HC := Lib.hid (And.intro h1 (And.intro h2 (And.intro h3 hal))); clear h1 h2 h3 hal ha hb hv hu hla hlb
 go_enter Tryz.func49, Tryz.ntmps49
 go_wp2_with fail
 refine Calls.mono HC.out.1 ?_
 rintro e1 w1 ⟨v1, rfl, hg1, rfl⟩
 go_wp2_with fail
 refine Calls.mono (HC.out.2.1 w1 hg1) ?_
 rintro e2 w2 ⟨v2, rfl, hg2, rfl⟩
 have hg02 := grown_trans hg1 hg2
 go_wp2_with fail
 refine Calls.mono (HC.out.2.2.1 w2 hg02) ?_
 rintro e3 w3 ⟨v3, rfl, hg3, hO⟩
 have hi := hO.ints (by have := HC.out.2.2.2; omega)
 obtain ⟨pa, pc, rfl, _, _⟩ := hi.shape
 have HI := Lib.hid hi; clear hi hO
 go_wp2
 go_ret2
 exact ⟨_, rfl, grown_trans hg02 hg3, _, _, _, rfl, HI.out⟩
end Go.Proofs.YtmjkoejegfjbbaaGreat
namespace Go.Proofs.YtmjkoejegfjbbaaGreat
open Go.RowKit
theorem Ints.extA {S : Nat → Prop} {w w' : World} {v : Value} {xs : List Int} (h : Ints S w v xs) (hg : Ext w w') : Ints Any w' v xs := Ints.sub (Ints.ext h hg) (fun _ _ _ => trivial)
end Go.Proofs.YtmjkoejegfjbbaaGreat
namespace Go.Proofs.YtmjkoejegfjbbaaGreat
open Go.RowKit
set_option maxHeartbeats 400000 in
theorem likeInts_ok (v1 v2 : Value) (l1 l2 : List Int) (w : World) (S1 S2 : Nat → Prop) (h1 : Ints S1 w v1 l1) (h2 : Ints S2 w v2 l2) :
  Calls Tryz.prog 26 #[v1, v2] w (Ret w fun _ v => v = .bool (eqB l1 l2)) := by
 obtain ⟨a, cap, rfl, _, _⟩ := h1.shape
 obtain ⟨a2, cap2, rfl, _, _⟩ := h2.shape
 by_cases hl : l1.length = l2.length
 ·have hd : ((l1.length : Int) != (l2.length : Int)) = false := by simp [hl]
  have hl1 : l1.length ≤ l2.length ∧ l2.length ≤ l1.length := by omega
  have HL := Lib.hid hl; clear hl
  go_enter Tryz.func26, Tryz.ntmps26
  go_wp2
  go_loopw [5] (fun i wr => ∃ k : Nat, i = .int .i64 k ∧ k ≤ l1.length ∧ Ext w wr ∧ ∀ i, i < k → gt l1 i = gt l2 i) (fun i _ => l1.length - (intOf i).toNat)
  case atStart => exact ⟨0, rfl, by omega, Ext.refl _, fun i hi => by omega⟩
  case round =>
   obtain ⟨k, rfl, hk, hg, hz⟩ := hrel
   have HZ := Lib.hid hz; clear hz
   by_cases hlt : k < l1.length
   ·obtain ⟨b, off, rfl, _, _, hc⟩ := Ints.at (h1.ext hg) k hlt
    obtain ⟨b2, off2, rfl, _, _, hc2⟩ := Ints.at (h2.ext hg) k (by omega)
    by_cases hx : gt l1 k = gt l2 k
    ·have hb : (gt l1 k != gt l2 k) = false := by simp [hx]
     have hx2 := Lib.hid hx; clear hx
     go_wp2
     go_quiet (fail)
     go_wp2
     go_roundw
     case rel => exact ⟨k + 1, by go_num, by omega, grown_trans hg (grown_drewN _ _ _), fun i hi => by
      rcases Nat.lt_or_ge i k with h1 | h1
      ·exact HZ.out i h1
      ·have : i = k := by omega
       rw [this, hx2.out]⟩
     case measure => simp [intOf]; omega
    ·have hb : (gt l1 k != gt l2 k) = true := by simp [hx]
     have hx2 := Lib.hid hx; clear hx
     go_wp2
     go_quiet (fail)
     go_wp2
     go_ret
     exact ret_bool (grown_trans hg (grown_drewN _ _ _)) (by rw [eqB_false_at (hx := hx2.out)])
   ·go_wp2
    go_ret
    exact ret_bool hg (by rw [eqB_true.2 (ext_gt HL.out (fun i hi => HZ.out i (by omega)))])
 ·have hd : ((l1.length : Int) != (l2.length : Int)) = true := by simp; omega
  have HL := Lib.hid hl; clear hl
  go_enter Tryz.func26, Tryz.ntmps26
  go_wp2
  go_ret
  exact ret_bool (Ext.refl _) (by rw [eqB_false.2 (fun h => HL.out (by rw [h]))])
end Go.Proofs.YtmjkoejegfjbbaaGreat
namespace Go.Proofs.YtmjkoejegfjbbaaGreat
open Go.RowKit
def Dice (B : Nat) (w : World) (db : Nat) : Prop := ∃ (cv : Value) (i : Nat) (h : Int) (bs : List Int), Box3 w db cv (.int .i64 i) (.int .u64 h) ∧ Bytes (fun k => k ≠ db ∧ k < B) w cv bs ∧ i ≤ bs.length ∧ bs.length ≤ 4096 ∧ db < B ∧ 0 ≤ h ∧ h < 18446744073709551616
theorem Dice.keep {B : Nat} {w w' : World} {db : Nat} (h : Dice B w db) (hs : w.heap.size ≤ w'.heap.size) (hb : ∀ k, k < B → k < w.heap.size → w'.heap[k]? = w.heap[k]?) : Dice B w' db := by
 obtain ⟨cv, i, x, bs, h1, h2, h3, h4, h5, h6⟩ := h
 exact ⟨cv, i, x, bs, h1.keep hs (hb db h5 h1.1), Sl.mono h2 (fun k hk hlt => ⟨hk, Nat.lt_of_lt_of_le hlt hs, hb k hk.2 hlt⟩) (fun _ _ h => h), h3, h4, h5, h6⟩
theorem Dice.ext {B : Nat} {w w' : World} {db : Nat} (h : Dice B w db) (hg : Ext w w') : Dice B w' db := h.keep hg.size (fun k _ hlt => hg.block k hlt (by simp))
theorem Dice.own {B : Nat} {w w' : World} {db : Nat} {r : Option Nat} (h : Dice B w db) (hg : w.grownBy w' r) (hr : ∀ k, r = some k → B ≤ k) : Dice B w' db :=
 h.keep hg.size (fun k hk hlt => hg.block k hlt (fun e => by have := hr k e.symm; omega))
theorem Dice.lt {B : Nat} {w : World} {db : Nat} (h : Dice B w db) : db < B ∧ db < w.heap.size := by
 obtain ⟨cv, i, x, bs, h1, h2, h3, h4, h5, h6⟩ := h
 exact ⟨h5, h1.1⟩
theorem u64_bd (z : Int) : 0 ≤ IntKind.u64.wrap z ∧ IntKind.u64.wrap z < 18446744073709551616 := by
 have h : IntKind.u64.wrap z = z % 18446744073709551616 := by simp [IntKind.wrap, IntKind.signed, IntKind.bits]
 rw [h]
 exact ⟨Int.emod_nonneg _ (by decide), Int.emod_lt_of_pos _ (by decide)⟩
set_option maxRecDepth 100000 in
set_option maxHeartbeats 8000000 in
theorem roll_ok (w : World) (cv : Value) (bs : List Int) (S : Nat → Prop) (seed : Int) (hbl : bs.length ≤ 4096) (hb : Bytes S w cv bs) :
  Calls Tryz.prog 30 #[cv, .int .u64 seed] w (Ret w fun w' v => ∃ db, v = .pointer (some ⟨db, 0, none⟩) ∧ w.heap.size ≤ db ∧ Dice (db + 1) w' db) := by
 obtain ⟨a, cap, rfl, _, hlen⟩ := Sl.shape hb
 obtain ⟨h0, hh0⟩ : ∃ h0, h0 = IntKind.u64.wrap (IntKind.u64.wrap (seed * 7607) + (bs.length : Nat)) := ⟨_, rfl⟩
 have hb0 := u64_bd (IntKind.u64.wrap (seed * 7607) + (bs.length : Nat))
 rw [← hh0] at hb0
 have hbA := Box3.made w 143 (.slice a bs.length cap) (.int .i64 0) (.int .u64 h0)
 have hgA : Ext w (w.alloc (.cells #[.slice a bs.length cap, .int .i64 0, .int .u64 h0] 143)) := World.grownBy_alloc _ _ _
 go_enter Tryz.func30, Tryz.ntmps30
 go_wp2_with fail
 rw [← hh0]
 have HH := Lib.hid hh0; clear hh0
 generalize w.alloc (.cells #[.slice a bs.length cap, .int .i64 0, .int .u64 h0] 143) = w0 at *
 go_loopw [6] (fun iv wr => ∃ (i : Nat) (h : Int), iv = .int .i64 i ∧ i ≤ bs.length ∧ (0 ≤ h ∧ h < 18446744073709551616) ∧ Ext w wr ∧ Box3 wr w.heap.size (.slice a bs.length cap) (.int .i64 0) (.int .u64 h)) (fun iv _ => bs.length - (intOf iv).toNat)
 case atStart => exact ⟨0, h0, rfl, by omega, hb0, hgA, hbA⟩
 case round =>
  clear hbA hgA hb0
  obtain ⟨i, h, rfl, hi, hhb, hg, hB⟩ := hrel
  by_cases hlt : i < bs.length
  ·obtain ⟨b, off, rfl, hbS, hbl2, hcb, hx0, hx1⟩ := Bytes.at hb i hlt
   have hcr := hg.cell hcb (by simp)
   generalize gt bs i = x at hcb hcr hx0 hx1
   have hli : (i : Int) < (bs.length : Nat) := by omega
   obtain ⟨s2, hs2⟩ : ∃ s2, s2 = IntKind.u64.wrap (IntKind.u64.wrap (IntKind.u64.wrap (h * 1099511628211) + x) + 5) := ⟨_, rfl⟩
   have hs2b := u64_bd (IntKind.u64.wrap (IntKind.u64.wrap (h * 1099511628211) + x) + 5)
   rw [← hs2] at hs2b
   have hBs := (hB.put (.int .u64 s2)).2.2
   have hgs := grown_set wr w.heap.size 2 (.int .u64 s2)
   have hgn : Ext w (wr.setCell ⟨w.heap.size, 2, none⟩ (.int .u64 s2)) := grown_own hg hgs (fun j hj hlt => by have := Option.some.inj hj; omega)
   have hBd := hBs.ext (grown_drew (wr.setCell ⟨w.heap.size, 2, none⟩ (.int .u64 s2)) none)
   have hgd := grown_trans hgn (grown_drew (wr.setCell ⟨w.heap.size, 2, none⟩ (.int .u64 s2)) none)
   have hw0 : IntKind.u64.wrap x = x := IntWalk.u64_in _ (by omega)
   obtain ⟨h0', h1, h2, h3, h4⟩ := id hB
   have c0 : wr.drew.cell? ⟨w.heap.size, 2, none⟩ = some (.int .u64 h) := h3
   have c1 : wr.drew.cell? ⟨b, off + i, none⟩ = some (.int .u8 x) := hcr
   have c2 : w.heap.size < wr.drew.heap.size := h0'
   have c3 := h4
   have hs2' := hs2.symm
   have HQ := Lib.hid (And.intro hgd (And.intro hBd (And.intro hs2b hb))); clear hgd hBd hs2 hs2b hb hgn hgs hBs hB hg h0' h1 h2 h3 hcb hcr
   go_wp2
   go_still_tail 15, (by kernel_rfl)
   change wpList _ _ _ _ _ wr.drew
   go_wp2
   go_roundw
   case rel => exact ⟨i + 1, s2, by go_num, by omega, HQ.out.2.2.1, HQ.out.1, HQ.out.2.1⟩
   case measure => simp [intOf]; omega
  ·have hli : ¬ (i : Int) < (bs.length : Nat) := by omega
   have HQ := Lib.hid (And.intro hg hB); clear hg hB
   go_wp2
   go_ret
   exact ⟨_, rfl, HQ.out.1, w.heap.size, rfl, Nat.le_refl _, _, 0, h, bs, HQ.out.2, Bytes.mono hb (fun k _ hlt => ⟨⟨by omega, by omega⟩, Nat.lt_of_lt_of_le hlt HQ.out.1.size, HQ.out.1.block k hlt (by simp)⟩), by omega, hbl, by omega, hhb⟩
theorem below_bits (h : Int) (h0 : 0 ≤ h) (h1 : h < 18446744073709551616) : ∃ x : Int, 0 ≤ x ∧ x < 16777216 ∧ bits .and .u64 (h / 8589934592) 16777215 = x := by
 obtain ⟨n, rfl⟩ : ∃ n : Nat, h = n := ⟨h.toNat, by omega⟩
 have hq : n / 8589934592 < 2 ^ 64 := by omega
 have e := u64_and_nat (n / 8589934592) 16777215 hq (by decide)
 refine ⟨((n / 8589934592 &&& 16777215 : Nat) : Int), by omega, ?_, ?_⟩
 ·have := Nat.and_lt_two_pow (n := 24) (n / 8589934592) (y := 16777215) (by decide)
  have h2 : (2 : Nat) ^ 24 = 16777216 := by decide
  omega
 ·rw [← e]; rfl
set_option maxRecDepth 100000 in
set_option maxHeartbeats 4000000 in
theorem below_ok (B : Nat) (w : World) (db : Nat) (n : Int) (hd : Dice B w db) (hn : 1 ≤ n) (hn2 : n ≤ 1000000000) :
  Calls Tryz.prog 32 #[.pointer (some ⟨db, 0, none⟩), .int .i64 n] w (Mut w (some db) fun w' v => ∃ x : Int, v = .int .i64 x ∧ 0 ≤ x ∧ x < n ∧ Dice B w' db) := by
 obtain ⟨cv, pos, h, bs, hB, hby, hpos, hbl, hdB, hh0, hh1⟩ := hd
 obtain ⟨a, cap, rfl, _, hlen⟩ := hby.shape
 obtain ⟨s2, hs2⟩ : ∃ s2, s2 = IntKind.u64.wrap (IntKind.u64.wrap (h * 6364136223846793005) + 1442695040888963407) := ⟨_, rfl⟩
 have hs2b := u64_bd (IntKind.u64.wrap (h * 6364136223846793005) + 1442695040888963407)
 rw [← hs2] at hs2b
 obtain ⟨y, hy0, hy1, hand⟩ := below_bits s2 hs2b.1 hs2b.2
 have hB1 := (hB.put (.int .u64 s2)).2.2
 obtain ⟨h0, h1, h2, h3, h4⟩ := id hB
 have hs2' := hs2.symm
 clear hs2
 go_enter Tryz.func32, Tryz.ntmps32
 have hg1 : w.grownBy (w.setCell ⟨db, 2, none⟩ (.int .u64 s2)) (some db) := grown_set _ _ _ _
 have hby1 : Bytes (fun k => k ≠ db ∧ k < B) (w.setCell ⟨db, 2, none⟩ (.int .u64 s2)) (.slice a bs.length cap) bs := Bytes.mono hby (frame_of hg1 (fun k hk _ => ⟨hk, fun e => hk.1 (by cases e; rfl)⟩))
 have HB1 := Lib.hid (And.intro hB1 (And.intro hg1 hby1)); clear hB1 hB hby hg1 hby1
 go_wp2
 clear h0 h1 h2 h3 h4 hs2' hand
 obtain ⟨hB1, hg1, hby1⟩ := HB1.out
 clear HB1
 generalize w.setCell ⟨db, 2, none⟩ (.int .u64 s2) = w1 at *
 obtain ⟨h0, h1, h2, h3, h4⟩ := id hB1
 have HG := Lib.hid (And.intro hB1 (And.intro hg1 hby1)); clear hB1 hg1 hby1
 by_cases hp : pos < bs.length
 ·obtain ⟨b, off, rfl, ⟨hbs, hbB⟩, hbl2, hcb, hx0, hx1⟩ := Bytes.at HG.out.2.2 pos hp
  obtain ⟨x, hx⟩ : ∃ x, x = gt bs pos := ⟨_, rfl⟩
  rw [← hx] at hcb hx0 hx1
  have HX := Lib.hid hx; clear hx
  have hpi : (pos : Int) < bs.length := by omega
  have hp0 : (0 : Int) ≤ pos := by omega
  have hqw : IntKind.i64.wrap (y + x) = y + x := IntWalk.i64_in _ (by omega)
  go_quiet (fail)
  go_wp2
  have hq : Ext w1 (w1.drewN nq) := grown_drewN _ _ _
  have hcb' := hq.cell hcb (by simp)
  have h0' : db < (w1.drewN nq).heap.size := Nat.lt_of_lt_of_le h0 hq.size
  have hG2 := And.intro (HG.out.1.ext hq) (And.intro (grown_trans HG.out.2.1 (grown_of_ext (some db) hq)) (Bytes.ext HG.out.2.2 hq))
  have HG := Lib.hid hG2; clear hG2 hq hcb h0 h1 h2 h3 h4
  obtain ⟨h1, h2, h3, h4⟩ := HG.out.1.2
  generalize w1.drewN nq = w2 at *
  go_quiet (fail)
  have hq : Ext w2 (w2.drewN nq) := grown_drewN _ _ _
  have h0 : db < (w2.drewN nq).heap.size := Nat.lt_of_lt_of_le h0' hq.size
  have hG2 := And.intro (HG.out.1.ext hq) (And.intro (grown_trans HG.out.2.1 (grown_of_ext (some db) hq)) (Bytes.ext HG.out.2.2 hq))
  have HG := Lib.hid hG2; clear hG2 hq hcb' h0' h1 h2 h3 h4
  obtain ⟨h1, h2, h3, h4⟩ := HG.out.1.2
  generalize w2.drewN nq = w3 at *
  have hB4 := (HG.out.1.put (.int .i64 ((pos : Int) + 1))).2.1
  have hg4 : w3.grownBy (w3.setCell ⟨db, 1, none⟩ (.int .i64 ((pos : Int) + 1))) (some db) := grown_set _ _ _ _
  have hby4 : Bytes (fun k => k ≠ db ∧ k < B) (w3.setCell ⟨db, 1, none⟩ (.int .i64 ((pos : Int) + 1))) (.slice (some ⟨b, off, none⟩) bs.length cap) bs := Bytes.mono HG.out.2.2 (frame_of hg4 (fun k hk _ => ⟨hk, fun e => hk.1 (by cases e; rfl)⟩))
  have hm : 0 ≤ (y + x) % n ∧ (y + x) % n < n := ⟨Int.emod_nonneg _ (by omega), Int.emod_lt_of_pos _ (by omega)⟩
  have HB4 := Lib.hid (And.intro hB4 (And.intro (grown_trans HG.out.2.1 hg4) (And.intro hby4 hm))); clear hB4 hg4 hby4 HG hqw hm
  have hpw : IntKind.i64.wrap ((pos : Int) + 1) = (pos : Int) + 1 := IntWalk.i64_in _ (by omega)
  have hn0 : n ≠ 0 := by omega
  go_wp2
  go_ret
  exact ⟨_, rfl, HB4.out.2.1, _, rfl, HB4.out.2.2.2.1, HB4.out.2.2.2.2, _, pos + 1, s2, bs, HB4.out.1, HB4.out.2.2.1, by omega, hbl, hdB, hs2b⟩
 ·have hpi : ¬ (pos : Int) < bs.length := by omega
  have hn0 : n ≠ 0 := by omega
  go_quiet (fail)
  have hq : Ext w1 (w1.drewN nq) := grown_drewN _ _ _
  have hm : 0 ≤ y % n ∧ y % n < n := ⟨Int.emod_nonneg _ (by omega), Int.emod_lt_of_pos _ (by omega)⟩
  have HM := Lib.hid hm; clear hm
  go_wp2
  go_ret
  exact ⟨_, rfl, grown_trans HG.out.2.1 (grown_of_ext _ hq), _, rfl, HM.out.1, HM.out.2, _, pos, s2, bs, HG.out.1.ext hq, Bytes.ext HG.out.2.2 hq, hpos, hbl, hdB, hs2b⟩
theorem PresV.off {S : Nat → Prop} {w w' : World} {v : Value} {P : Pr} {db : Nat} (h : PresV S w v P) (hg : Ext w w') (hdb : w.heap.size ≤ db) : PresV (fun k => k ≠ db) w' v P := by
 obtain ⟨vo, vp, vc, rfl, h3⟩ := h
 exact ⟨_, _, _, rfl, h3.mono (fun k _ hlt => ⟨by omega, Nat.lt_of_lt_of_le hlt hg.size, hg.block k hlt (by simp)⟩)⟩
set_option maxRecDepth 100000 in
set_option maxHeartbeats 4000000 in
theorem draw9_ok (P : Pr) (hP : Valid P) (B : Nat) (w : World) (db : Nat) (pv : Value) (hBw : B ≤ w.heap.size) (hd : Dice B w db) (hpv : PresV (fun k => k ≠ db) w pv P) :
  Calls Tryz.prog 80 #[.pointer (some ⟨db, 0, none⟩), pv] w (Mut w (some db) fun w' v => ∃ X, Own w.heap.size w' v X ∧ Vec P.orders X ∧ Dice B w' db) := by
 have hn6 := hP.n6
 have hsb := hd.lt.2
 obtain ⟨vo, vp, vc, rfl, h3⟩ := hpv
 obtain ⟨ao, co, hvo, _, _⟩ := h3.o.shape
 obtain ⟨ap, cp, hvp, _, _⟩ := Sl.shape h3.p
 obtain ⟨ac, cc, hvc, _, _⟩ := Sl.shape h3.c
 subst hvo hvp hvc
 have hbA := Box3.made w 39 (.slice ao P.orders.length co) (.slice ap P.powers.length cp) (.slice ac P.conj.length cc)
 have hgA : Ext w (w.alloc (.cells #[.slice ao P.orders.length co, .slice ap P.powers.length cp, .slice ac P.conj.length cc] 39)) := World.grownBy_alloc _ _ _
 have hoA := h3.o.ext hgA
 have hdA := hd.ext hgA
 have hzA : (w.alloc (.cells #[.slice ao P.orders.length co, .slice ap P.powers.length cp, .slice ac P.conj.length cc] 39)).heap.size = w.heap.size + 1 := by simp
 have HZ := Lib.hid (And.intro hzA hdA); clear hzA hdA hd h3
 go_enter Tryz.func80, Tryz.ntmps80
 go_wp2_with fail
 generalize w.alloc (.cells #[.slice ao P.orders.length co, .slice ap P.powers.length cp, .slice ac P.conj.length cc] 39) = w0 at *
 have hzA : w0.heap.size = w.heap.size + 1 := HZ.out.1
 have hgE := World.grownBy_alloc w0 (.cells #[] 2) none
 have hOE : Own w0.heap.size (w0.alloc (.cells #[] 2)) (.slice (some ⟨w0.heap.size, 0, none⟩) 0 0) [] := World.ownsRow_lit w0 #[] 0 (Nat.le_refl _) (by decide) rfl
 have HS := Lib.hid (HZ.out.2.ext hgE)
 have hg0 := grown_of_ext (some db) hgE
 clear hgE
 have HW := Lib.hid hzA
 rw [hzA] at hOE
 have hz1 : w.heap.size + 1 ≤ w0.heap.size := by omega
 clear hzA HZ
 generalize w0.alloc (.cells #[] 2) = w1 at *
 rw [← HW.out] at hOE
 rw [← HW.out]
 go_loopw [5, 6] (fun ov iv wr => ∃ (i : Nat) (l : List Int) (v4 : Value), v4 = ov ∧ iv = .int .i64 i ∧ i ≤ P.orders.length ∧ Hid (l.length = i ∧ ∀ j, j < i → 0 ≤ gt l j ∧ gt l j < gt P.orders j) ∧ w0.grownBy wr (some db) ∧ Own w0.heap.size wr v4 l ∧ Hid (Dice B wr db)) (fun _ iv _ => P.orders.length - (intOf iv).toNat)
 case atStart => exact ⟨0, [], _, rfl, rfl, by omega, Lib.hid ⟨rfl, fun j hj => by omega⟩, hg0, hOE, HS⟩
 case round =>
  clear hg0 hOE HS
  obtain ⟨i, l, v4, rfl, rfl, hi, hli, hg, hO, hsr⟩ := hrel
  have hbr := hbA.keep hg.size (hg.block _ hbA.1 (fun e => by have := Option.some.inj e; omega))
  obtain ⟨b0, b1, b2, b3, b4⟩ := id hbr
  have hob : ∀ j, v4.ownBlock = some j → w0.heap.size ≤ j := fun j hj => (hO.lt j hj).1
  have HO := Lib.hid hob; clear hob
  by_cases hlt : i < P.orders.length
  ·have hlt' : (i : Int) < P.orders.length := by omega
   obtain ⟨bo, oo, rfl, hboF, _, hco⟩ := Ints.at hoA i hlt
   have hc := hg.cell hco (by simp; exact hboF)
   have ho7 := hP.ord7 i hlt
   obtain ⟨x, hx⟩ : ∃ x, x = gt P.orders i := ⟨_, rfl⟩
   rw [← hx] at hc hco ho7
   have HX := Lib.hid hx
   clear hx hco
   have hmx : max 1 x = x := by omega
   go_wp2_with fail
   refine Calls.mono (below_ok B wr db x hsr.out (by omega) (by omega)) ?_
   rintro e3 w3 ⟨v3, rfl, hg3, y, rfl, hy0, hy1, hs3⟩
   have hg03 := grown_trans hg hg3
   have hO3 : Own w0.heap.size w3 _ l := hO.kept hg3 (.inr (fun e => by have := HO.out db e; omega))
   have hll : l.length ≤ 1000000 := by have := hli.out.1; omega
   have HS3 := Lib.hid (And.intro hs3 hll); clear hs3 hc hll hO hmx
   go_wp2_with (first | (at_builtin; refine wp_app_int rfl _ _ rfl w0.heap.size v4 l y rfl w3 hO3 rfl rfl HS3.out.2 hg03.size ?_; intro v5 w5 hO5 hg5) | fail)
   have hs5 := HS3.out.1.own hg5 (fun j hj => by have := HO.out j hj; omega)
   have hg05 : w0.grownBy w5 (some db) := grown_own hg03 hg5 (fun j hj hlt => by have := HO.out j hj; omega)
   have hll : (l ++ [y]).length = l.length + 1 := by simp
   go_roundw
   case rel => exact ⟨i + 1, l ++ [y], v5, rfl, by go_num, by omega, Lib.hid ⟨by have := hli.out.1; omega, fun j hj => by
    have hl := hli.out.1
    rcases Nat.lt_succ_iff_lt_or_eq.1 hj with h4 | h4
    ·have e : gt (l ++ [y]) j = gt l j := gt_append_left _ _ _ (by omega)
     rw [e]; exact hli.out.2 j h4
    ·have e : gt (l ++ [y]) j = y := by rw [h4, ← hl]; exact gt_concat _ _
     rw [e, h4, ← HX.out]; exact ⟨hy0, hy1⟩⟩, hg05, hO5, Lib.hid hs5⟩
   case measure => simp [intOf]; omega
  ·have hlt' : ¬ ((i : Int) < P.orders.length) := by omega
   have hie : i = P.orders.length := by omega
   subst hie
   obtain ⟨al, cl, rfl, _⟩ := (hO.ints (by have := hli.out.1; omega)).shape
   have hgw : w.grownBy wr (some db) := grown_trans (grown_of_ext (some db) hgA) hg
   have HF := Lib.hid (And.intro hgw hO); clear hgw hO
   go_wp2
   go_ret
   exact ⟨_, rfl, HF.out.1, l, HF.out.2.weak (by omega), ⟨hli.out.1, fun j hj => hli.out.2 j (by have := hli.out.1; omega)⟩, hsr.out⟩
end Go.Proofs.YtmjkoejegfjbbaaGreat
namespace Go.Proofs.YtmjkoejegfjbbaaGreat
open Go.RowKit
set_option maxRecDepth 100000 in
set_option maxHeartbeats 2000000 in
theorem sOrder_ok (P : Pr) (hr : rconsB P = true) (w : World) (pv : Value) (Sp : Nat → Prop) (hpv : PresV Sp w pv P) :
  Calls Tryz.prog 160 #[pv] w (Ret w fun _ v => v = .tuple #[.int .i64 (ordP P), .int .i64 0]) := by
 have G := grp_of_r hr
 have hP := G.v
 obtain ⟨vo, vp, vc, rfl, h3⟩ := hpv
 have hp0 := PresP.box h3 39
 have hg0 : Ext w (w.alloc (.cells #[vo, vp, vc] 39)) := World.grownBy_alloc _ _ _
 obtain ⟨vo6, vp6, vc6, _, _, hc0, hc1, hc2, h36⟩ := hp0.at
 simp only [Nat.zero_add] at hc1 hc2
 have hE := sIsPresentation_ok (w.alloc (.cells #[vo, vp, vc] 39)) (.agg #[vo6, vp6, vc6]) P Any ⟨_, _, _, rfl, h36⟩
 have hv := validB_true hP
 rw [hv] at hE
 have hbx : ∀ w', Ext (w.alloc (.cells #[vo, vp, vc] 39)) w' → w'.cell? ⟨w.heap.size, 0, none⟩ = some vo6 := fun w' h => h.cell hc0 (by simp)
 have HB := Lib.hid hbx; clear hbx hv
 go_enter Tryz.func160, Tryz.ntmps160
 go_wp2_with fail
 clear hc0 hc1 hc2
 generalize w.alloc (.cells #[vo, vp, vc] 39) = w0 at *
 refine Calls.mono hE ?_
 rintro e1 w1 ⟨v1, rfl, hg1, rfl⟩
 clear hE
 have hb0 := HB.out w1 hg1
 have hob : ∀ i, i < P.orders.length → 1 ≤ gt P.orders i ∧ gt P.orders i ≤ 7 := fun i hi => by have := hP.ord7 i hi; omega
 have hpr := l07Product_ok w1 vo6 P.orders Any (h36.o.ext hg1) hob
 have hcap : capTo P.orders P.orders.length = ordP P := by
  have h := capTo_le P.orders.length (fun i hi => (hob i hi).1)
  have h2 := hP.le729
  exact h.2 (h.1.2 h2)
 rw [hcap] at hpr
 have HPR := Lib.hid hpr; clear hpr hcap hob
 go_wp2_with fail
 refine Calls.mono HPR.out ?_
 rintro _ _ ⟨rfl, rfl⟩
 go_wp2
 go_ret2
 exact ⟨_, rfl, grown_trans hg0 hg1, rfl⟩
set_option maxRecDepth 100000 in
set_option maxHeartbeats 1000000 in
theorem size9_ok (P : Pr) (hr : rconsB P = true) (w : World) (pv : Value) (Sp : Nat → Prop) (hpv : PresV Sp w pv P) :
  Calls Tryz.prog 47 #[pv] w (Ret w fun _ v => v = .int .i64 (ordP P)) := by
 have hrH := Lib.hid hr; clear hr
 obtain ⟨vo, vp, vc, rfl, h3⟩ := hpv
 have hp0 := PresP.box h3 39
 have hg0 : Ext w (w.alloc (.cells #[vo, vp, vc] 39)) := World.grownBy_alloc _ _ _
 obtain ⟨vo6, vp6, vc6, _, _, hc0, hc1, hc2, h36⟩ := hp0.at
 simp only [Nat.zero_add] at hc1 hc2
 clear hp0
 go_enter Tryz.func47, Tryz.ntmps47
 go_wp2_with fail
 clear hc0 hc1 hc2
 refine Calls.mono (sOrder_ok P hrH.out _ _ _ ⟨_, _, _, rfl, h36⟩) ?_
 rintro e1 w1 ⟨v1, rfl, hg1, rfl⟩
 go_wp2
 go_ret
 exact ⟨_, rfl, grown_trans hg0 hg1, rfl⟩
end Go.Proofs.YtmjkoejegfjbbaaGreat
namespace Go.Proofs.YtmjkoejegfjbbaaGreat
open Go.RowKit
set_option maxRecDepth 100000 in
set_option maxHeartbeats 2000000 in
theorem areElements_ok (Q : Pr) (w : World) (p lv : Value) (L : List (List Int)) (Sp Sl' : Nat → Prop) (hp : PresP Sp w p Q) (hl : Rows2 Sl' w lv L) :
  Calls Tryz.prog 135 #[p, lv] w (Ret w fun _ v => ∃ r : Bool, v = .bool r ∧ (r = true ↔ rconsB Q = true ∧ ∀ x ∈ L, Vec Q.orders x)) := by
 obtain ⟨pb, po, rfl⟩ := hp.shape
 obtain ⟨al, capl, rfl, _, _⟩ := Sl.shape hl
 obtain ⟨vo, vp, vc, _, _, hc0, hc1, hc2, h3⟩ := hp.at
 obtain ⟨ao, capo, rfl, _, _⟩ := h3.o.shape
 obtain ⟨ap, capp, rfl, _, _⟩ := Sl.shape h3.p
 obtain ⟨ac, capc, rfl, _, _⟩ := Sl.shape h3.c
 have hcon := isConsistent_ok Q w (.agg #[.slice ao Q.orders.length capo, .slice ap Q.powers.length capp, .slice ac Q.conj.length capc]) Sp ⟨_, _, _, rfl, h3⟩
 rw [icons_eq] at hcon
 go_enter Tryz.func135, Tryz.ntmps135
 go_wp2_with fail
 refine Calls.mono hcon ?_
 rintro e1 w1 ⟨v, rfl, hg1, rfl⟩
 clear hcon
 cases hq : rconsB Q with
 | false =>
  have HQ := Lib.hid hq; clear hq
  go_wp2
  go_ret
  exact ⟨_, rfl, hg1, false, rfl, by simp only [Bool.false_eq_true, false_iff]; rintro ⟨h, _⟩; rw [HQ.out] at h; cases h⟩
 | true =>
  have G := grp_of_r hq
  have hn6 := G.v.n6
  have HQ := Lib.hid hq; clear hq hc0 hc1 hc2
  go_wp2
  go_loopw [14] (fun jv wr => ∃ j : Nat, jv = .int .i64 j ∧ j ≤ L.length ∧ Ext w wr ∧ Hid (∀ l, l < j → Vec Q.orders (gt L l))) (fun jv _ => L.length - (intOf jv).toNat)
  case atStart => exact ⟨0, rfl, by omega, hg1, Lib.hid (fun j h => by omega)⟩
  case round =>
   obtain ⟨j, rfl, hj, hg, hV⟩ := hrel
   by_cases hjl : j < L.length
   ·have hjl' : (j : Int) < L.length := by omega
    obtain ⟨b3, off3, a3, cap3, rfl, _, _, hc3, hr3⟩ := Rows2.at (Rows2.ext hl hg) j hjl
    have hex := isExponents_ok wr _ _ Q (gt L j) Sp Sl' (hp.ext hg) hr3 (fun i hi => by have := G.v.ord7 i hi; omega)
    cases hb : expB Q.orders (gt L j) with
    | true =>
     rw [hb] at hex
     have HB := Lib.hid (expB_vec.1 hb); clear hb
     go_wp2_with fail
     refine Calls.mono hex ?_
     rintro eE wE ⟨rfl, rfl⟩
     clear hex
     go_wp2
     go_roundw
     case rel => exact ⟨j + 1, by go_num, by omega, hg, Lib.hid (fun l hl => by
      rcases Nat.lt_succ_iff_lt_or_eq.1 hl with h | h
      ·exact hV.out l h
      ·rw [h]; exact HB.out)⟩
     case measure => simp [intOf]; omega
    | false =>
     rw [hb] at hex
     have hno : ¬ ∀ x ∈ L, Vec Q.orders x := fun h => by
      have := expB_vec.2 (h _ (gtMem hjl))
      rw [hb] at this; cases this
     have HB := Lib.hid hno; clear hb hno
     go_wp2_with fail
     refine Calls.mono hex ?_
     rintro eE wE ⟨rfl, rfl⟩
     clear hex
     go_wp2
     go_ret
     exact ⟨_, rfl, hg, false, rfl, by simp only [Bool.false_eq_true, false_iff]; rintro ⟨_, h⟩; exact HB.out h⟩
   ·have hke : j = L.length := by omega
    subst hke
    go_wp2
    go_ret
    exact ⟨_, rfl, hg, true, rfl, by
     simp only [true_iff]
     refine ⟨HQ.out, fun x hx => ?_⟩
     obtain ⟨l, hl, rfl⟩ := List.getElem_of_mem hx
     rw [← gt_eq L l hl]; exact hV.out l hl⟩
end Go.Proofs.YtmjkoejegfjbbaaGreat
namespace Go.Proofs.YtmjkoejegfjbbaaGreat
open Go.RowKit
theorem rowsE2 {w : World} {v1 v2 : Value} {l1 l2 : List Int} {S1 S2 : Nat → Prop} (h1 : Ints S1 w v1 l1) (h2 : Ints S2 w v2 l2) : Rows2 Any (w.alloc (.cells #[v1, v2] 36)) (.slice (some ⟨w.heap.size, 0, none⟩) 2 2) [l1, l2] := by
 have hg : Ext w (w.alloc (.cells #[v1, v2] 36)) := World.grownBy_alloc _ _ _
 refine ⟨_, 2, rfl, ⟨by simp, by simp, fun h => by cases h⟩, fun i hi => ?_⟩
 have : i = 0 ∨ i = 1 := by simp at hi; omega
 rcases this with rfl | rfl
 ·exact ⟨w.heap.size, 0, v1, rfl, trivial, by simp, by rw [World.cell?_alloc_at _ _ _ _ rfl]; rfl, Ints.sub (Ints.ext h1 hg) (fun _ _ _ => trivial)⟩
 ·exact ⟨w.heap.size, 0, v2, rfl, trivial, by simp, by rw [World.cell?_alloc_at _ _ _ _ rfl]; rfl, Ints.sub (Ints.ext h2 hg) (fun _ _ _ => trivial)⟩
set_option maxRecDepth 100000 in
set_option maxHeartbeats 4000000 in
theorem iMulE_ok (P : Pr) (hr : rconsB P = true) (w : World) (pv xv yv : Value) (X Y : List Int) (Sp Sx Sy : Nat → Prop) (hpv : PresV Sp w pv P) (hx : Ints Sx w xv X) (hy : Ints Sy w yv Y) (hX : Vec P.orders X) (hY : Vec P.orders Y) :
  Calls Tryz.prog 213 #[pv, xv, yv] w (Ret w fun w' v => ∃ a n c, v = .tuple #[.slice a n c, .int .i64 0] ∧ Own w.heap.size w' (.slice a n c) (rMul P X Y)) := by
 have G := grp_of_r hr
 have hn6 := G.v.n6
 obtain ⟨vo, vp, vc, rfl, h3⟩ := hpv
 have hp0 := PresP.box h3 39
 have hg0 : Ext w (w.alloc (.cells #[vo, vp, vc] 39)) := World.grownBy_alloc _ _ _
 have hs0 : (w.alloc (.cells #[vo, vp, vc] 39)).heap.size = w.heap.size + 1 := by simp
 have hx0 := Ints.ext hx hg0
 obtain ⟨ax, capx, rfl, _, _⟩ := hx.shape
 have hy0 := Ints.ext hy hg0
 obtain ⟨ay, capy, rfl, _, _⟩ := hy.shape
 have hg1 : Ext (w.alloc (.cells #[vo, vp, vc] 39)) ((w.alloc (.cells #[vo, vp, vc] 39)).alloc (.cells #[.slice ax X.length capx, .slice ay Y.length capy] 36)) := World.grownBy_alloc _ _ _
 have hl := rowsE2 hx0 hy0
 have hcon := areElements_ok P _ _ _ [X, Y] Any Any (hp0.ext hg1) hl
 rw [hs0] at hcon
 clear hl hx hy
 have HH := Lib.hid (And.intro hr (And.intro hX ( And.intro hY ((trivial : True))))); clear hr hX hY
 go_enter Tryz.func213, Tryz.ntmps213
 go_wp2_with fail
 refine Calls.mono hcon ?_
 rintro e1 w1 ⟨v1, rfl, hgA, r1, rfl, hr1⟩
 clear hcon
 obtain rfl : r1 = true := hr1.2 (by have := HH.out; simp only [List.mem_cons, List.mem_nil_iff, or_false]; exact ⟨this.1, fun u hu => by rcases hu with rfl | rfl; exact this.2.1; exact this.2.2.1⟩)
 clear hr1
 have hg01 := grown_trans hg1 hgA
 have HS := Lib.hid hs0; clear hs0
 generalize hw0 : (w.alloc (.cells #[vo, vp, vc] 39)) = w0 at *
 clear hw0 hg1 hgA
 have hp1 := hp0.ext hg01
 have hx1 := Ints.ext hx0 hg01
 have hy1 := Ints.ext hy0 hg01
 go_wp2_with fail
 refine Calls.mono (multiply_ok P G.v w1 _ _ _ X Y Any Sx Sy hp1 hx1 hy1 HH.out.2.1 HH.out.2.2.1) ?_
 rintro e2 w2 ⟨v2, rfl, hg2, hO⟩
 rw [G.tv_eq HH.out.2.1 HH.out.2.2.1] at hO
 obtain ⟨ad, nd, capd, hvd⟩ : ∃ a n c, v2 = Value.slice a n c := by obtain ⟨a, c, e, _⟩ := (hO.ints (by rw [(G.mulV HH.out.2.1 HH.out.2.2.1).1]; omega)).shape; exact ⟨_, _, _, e⟩
 subst hvd
 go_wp2
 go_ret2
 exact ⟨_, rfl, grown_trans hg0 (grown_trans hg01 hg2), _, _, _, rfl, hO.weak (by have := hg01.size; have := hg0.size; omega)⟩
end Go.Proofs.YtmjkoejegfjbbaaGreat
namespace Go.Proofs.YtmjkoejegfjbbaaGreat
open Go.RowKit
set_option maxRecDepth 100000 in
set_option maxHeartbeats 1000000 in
theorem mul9_ok (P : Pr) (hr : rconsB P = true) (w : World) (pv xv yv : Value) (X Y : List Int) (Sp Sx Sy : Nat → Prop) (hpv : PresV Sp w pv P) (hx : Ints Sx w xv X) (hy : Ints Sy w yv Y) (hX : Vec P.orders X) (hY : Vec P.orders Y) :
  Calls Tryz.prog 81 #[pv, xv, yv] w (Ret w fun w' v => ∃ a n c, v = .slice a n c ∧ Own w.heap.size w' (.slice a n c) (rMul P X Y)) := by
 have hrH := Lib.hid (And.intro hr ((And.intro hX (And.intro hY (trivial : True))))); clear hr hX hY
 obtain ⟨vo, vp, vc, rfl, h3⟩ := hpv
 have hp0 := PresP.box h3 39
 have hg0 : Ext w (w.alloc (.cells #[vo, vp, vc] 39)) := World.grownBy_alloc _ _ _
 have hx0 := Ints.ext hx hg0
 obtain ⟨ax, capx, rfl, _, _⟩ := hx.shape
 have hy0 := Ints.ext hy hg0
 obtain ⟨ay, capy, rfl, _, _⟩ := hy.shape
 obtain ⟨vo6, vp6, vc6, _, _, hc0, hc1, hc2, h36⟩ := hp0.at
 simp only [Nat.zero_add] at hc1 hc2
 clear hp0 hx hy
 go_enter Tryz.func81, Tryz.ntmps81
 go_wp2_with fail
 clear hc0 hc1 hc2
 refine Calls.mono (iMulE_ok P hrH.out.1 _ _ _ _ X Y _ _ _ ⟨_, _, _, rfl, h36⟩ hx0 hy0 hrH.out.2.1 hrH.out.2.2.1) ?_
 rintro e1 w1 ⟨v1, rfl, hg1, a1, n1, c1, rfl, hO⟩
 have HO := Lib.hid hO; clear hO
 go_wp2
 go_ret
 exact ⟨_, rfl, grown_trans hg0 hg1, _, _, _, rfl, HO.out.weak (by have := hg0.size; omega)⟩
end Go.Proofs.YtmjkoejegfjbbaaGreat
namespace Go.Proofs.YtmjkoejegfjbbaaGreat
open Go.RowKit
attribute [local go_sem ↓] Go.wp_at_zero Go.wp_at_succ
set_option maxRecDepth 100000 in
set_option maxHeartbeats 8000000 in
theorem lawCa_ok (w : World) (cv : Value) (bs : List Int) (S : Nat → Prop) (hb : Bytes S w cv bs) :
  Calls Tryz.prog 10 #[cv] w (Ret w fun _ v => v = .bool true) := by
 obtain ⟨ca, cc, rfl, _, _⟩ := Sl.shape hb
 go_enter Tryz.func10, Tryz.ntmps10
 go_wp2_with fail
 refine Calls.mono (big_ok w _ bs S hb) ?_
 rintro _ _ ⟨rfl, rfl⟩
 by_cases hbg : 4096 < bs.length
 ·have hd : decide (4096 < bs.length) = true := by simp [hbg]
  rw [hd]
  go_wp2
  go_ret
  exact ⟨_, rfl, grown_refl _ _, rfl⟩
 have hbl : bs.length ≤ 4096 := by omega
 have hd : decide (4096 < bs.length) = false := by simp [hbg]
 rw [hd]; clear hd hbg
 go_wp2_with fail
 refine Calls.mono (DrawCosetAction_ok w _ bs S hb) ?_
 rintro e1 w1 ⟨v1, rfl, hg1, vo, vp, vc, rv, x0v, P, rfl, hPl, hP, ⟨U, _, _, hU⟩, ⟨X0, _, hX0⟩⟩
 obtain ⟨a1, n1, c1, hy1⟩ : ∃ a n c, vo = .slice a n c := by obtain ⟨a, c, e, _⟩ := hP.o.shape; exact ⟨_, _, _, e⟩
 obtain ⟨a2, n2, c2, hy2⟩ : ∃ a n c, vp = .slice a n c := by obtain ⟨a, c, e, _⟩ := Sl.shape hP.p; exact ⟨_, _, _, e⟩
 obtain ⟨a3, n3, c3, hy3⟩ : ∃ a n c, vc = .slice a n c := by obtain ⟨a, c, e, _⟩ := Sl.shape hP.c; exact ⟨_, _, _, e⟩
 subst hy1 hy2 hy3
 obtain ⟨ra, rn, rc, hrr⟩ : ∃ a n c, rv = .slice a n c := by obtain ⟨a, c, e, _⟩ := Sl.shape hU; exact ⟨_, _, _, e⟩
 subst hrr
 obtain ⟨x0a, x0n, x0c, hrx0⟩ : ∃ a n c, x0v = .slice a n c := by obtain ⟨a, c, e, _⟩ := Sl.shape hX0; exact ⟨_, _, _, e⟩
 subst hrx0
 have hgX : Ext w1 (w1.alloc (.cells #[.slice a1 n1 c1, .slice a2 n2 c2, .slice a3 n3 c3] 39)) := World.grownBy_alloc _ _ _
 have hX := Box3.made w1 39 (.slice a1 n1 c1) (.slice a2 n2 c2) (.slice a3 n3 c3)
 have hPX := hP.ext hgX
 have hUX := Rows2.ext hU hgX
 have hX0X := Ints.ext hX0 hgX
 have hgw := grown_trans hg1 hgX
 have hbX := Bytes.ext hb hgw
 have HA0 := Lib.hid (And.intro hPX (And.intro hUX (And.intro hX0X (And.intro hgw hbX)))); clear hPX hUX hX0X hgw hbX hgX hP hU hX0 hg1 hb
 obtain ⟨pb, hpb⟩ : ∃ pb, pb = w1.heap.size := ⟨_, rfl⟩
 rw [← hpb] at hX
 have HP := Lib.hid hpb; clear hpb
 go_wp2_with fail
 rw [← HP.out]
 generalize w1.alloc (.cells #[.slice a1 n1 c1, .slice a2 n2 c2, .slice a3 n3 c3] 39) = w2 at *
 clear HP
 have hall : ∀ w', Ext w2 w' → Box3 w' pb (.slice a1 n1 c1) (.slice a2 n2 c2) (.slice a3 n3 c3) ∧ PresV (From w.heap.size) w' (.agg #[.slice a1 n1 c1, .slice a2 n2 c2, .slice a3 n3 c3]) P ∧ Rows2 (From w.heap.size) w' (.slice ra rn rc) U ∧ Ints (From w.heap.size) w' (.slice x0a x0n x0c) X0 ∧ Bytes S w' (.slice ca bs.length cc) bs :=
  fun w' h => ⟨hX.ext h, ⟨_, _, _, rfl, HA0.out.1.ext h⟩, Rows2.ext HA0.out.2.1 h, Ints.ext HA0.out.2.2.1 h, Bytes.ext HA0.out.2.2.2.2 h⟩
 have HA := Lib.hid hall; clear hall hX
 have hgw := grown_refl w2 none
 obtain ⟨b0_, b1_, b2_, b3_, _⟩ := id (HA.out w2 hgw).1
 go_wp2_with fail
 clear b0_ b1_ b2_ b3_
 refine Calls.mono (iCa_ok P w2 _ _ _ U X0 _ _ _ (HA.out w2 hgw).2.1 (HA.out w2 hgw).2.2.1 (HA.out w2 hgw).2.2.2.1) ?_
 rintro e3 w3 ⟨v3, rfl, hg_, aa, an, ac, rfl, hA_⟩
 replace hgw := grown_trans hgw hg_
 have hAAr : Ints Any w3 (.slice aa an ac) (caL P U X0) := hA_
 have hAAx : ∀ w', Ext w3 w' → Ints Any w' (.slice aa an ac) (caL P U X0) := fun w' h => Ints.ext hAAr h
 have HAA := Lib.hid hAAx; clear hAAr hAAx
 have hgAA := grown_refl w3 none
 clear hA_
 clear hg_
 obtain ⟨b0_, b1_, b2_, b3_, _⟩ := id (HA.out w3 hgw).1
 go_wp2_with fail
 clear b0_ b1_ b2_ b3_
 refine Calls.mono (sCa_ok P w3 _ _ _ U X0 _ _ _ (HA.out w3 hgw).2.1 (HA.out w3 hgw).2.2.1 (HA.out w3 hgw).2.2.2.1) ?_
 rintro e4 w4 ⟨v4, rfl, hg_, ta, tn, tc, rfl, hT_⟩
 replace hgw := grown_trans hgw hg_
 replace hgAA := grown_trans hgAA hg_
 have hTr : Ints Any w4 (.slice ta tn tc) (caL P U X0) := hT_
 have hTx : ∀ w', Ext w4 w' → Ints Any w' (.slice ta tn tc) (caL P U X0) := fun w' h => Ints.ext hTr h
 have HT := Lib.hid hTx; clear hTr hTx
 have hgT := grown_refl w4 none
 clear hT_
 clear hg_
 go_wp2_with fail
 refine Calls.mono (likeInts_ok _ _ (caL P U X0) (caL P U X0) w4 Any Any (HAA.out w4 hgAA) (HT.out w4 hgT)) ?_
 rintro e5 w5 ⟨v5, rfl, hg_, rfl⟩
 replace hgw := grown_trans hgw hg_
 replace hgAA := grown_trans hgAA hg_
 replace hgT := grown_trans hgT hg_
 rw [show eqB (caL P U X0) (caL P U X0) = true from eqB_true.2 rfl]
 clear HT hgT
 clear hg_
 by_cases hz : caC P U X0 = 0
 case neg =>
  have hzb : (caC P U X0 != 0) = true := by simpa using hz
  clear hz
  generalize caC P U X0 = cc at *
  go_wp2
  go_ret
  exact ⟨_, rfl, grown_trans HA0.out.2.2.2.1 hgw, rfl⟩
 obtain ⟨hcr, h128⟩ := ca_zero hz
 have hr := hcr.1.1
 have hUB := hcr.1.2
 have hX := hcr.2
 have G := grp_of_r hr
 have hn6 := G.v.n6
 have hop := G.v.ordP_pos
 have h729 := G.v.le729
 rw [hz]
 rw [(ca_ok hcr (by omega)).2] at HAA
 have hbij := fun Y (hY : Vec P.orders Y) => G.ca_bij hr hUB hY
 have haft := fun Y (hY : Vec P.orders Y) => G.ca_aft hr hUB hX hY
 have htr := fun t (ht : t < ixN P U) => G.cn_tr hr hUB ht
 have hcrt := fun Y (hY : Vec P.orders Y) => G.tr_cr hr hUB hY
 have hixm := G.ix_mul hUB
 have htl := G.tr_len (U := U)
 have hok := fun Y (hY : Vec P.orders Y) => ca_ok (P := P) (U := U) (X := Y) ⟨hcr.1, hY⟩ (by omega)
 have HH := Lib.hid (And.intro hbij (And.intro haft (And.intro htr (And.intro hcrt (And.intro hixm (And.intro htl (And.intro hok hcr))))))); clear hbij haft htr hcrt hixm htl hok hcr hz
 have hgw0 := hgw
 have hdA := hgAA.size
 have hdw := hgw.size
 go_wp2_with fail
 refine Calls.mono (roll_ok w5 _ bs S 7 hbl (HA.out w5 hgw).2.2.2.2) ?_
 rintro e6 w6 ⟨v6, rfl, hg_, db, rfl, hdb, hDi⟩
 replace hgw := grown_trans hgw hg_
 replace hgAA := grown_trans hgAA hg_
 have hPd := PresV.off (HA.out w5 hgw0).2.1 hg_ hdb
 have hdlt := hDi.lt.2
 have HDi := Lib.hid (And.intro hDi hPd); clear hDi hPd
 clear hg_
 obtain ⟨b0_, b1_, b2_, b3_, _⟩ := id (HA.out w6 hgw).1
 go_wp2_with fail
 clear b0_ b1_ b2_ b3_
 refine Calls.mono (draw9_ok P G.v (db + 1) w6 db _ (by omega) HDi.out.1 HDi.out.2) ?_
 rintro e7 w7 ⟨v7, rfl, hg_, Y, hY_, hYV, _⟩
 replace hgw := grown_own hgw hg_ (fun j hj hlt => by have := Option.some.inj hj; have := hgw.size; omega)
 replace hgAA := grown_own hgAA hg_ (fun j hj hlt => by have := Option.some.inj hj; have := hgAA.size; omega)
 have hYi := hY_.ints (by rw [hYV.1]; omega)
 obtain ⟨ya, yc, hys, _, _⟩ := hYi.shape
 subst hys
 have hYr : Ints Any w7 (.slice ya Y.length yc) (Y) := Ints.sub hYi (fun _ _ _ => trivial)
 have hYx : ∀ w', Ext w7 w' → Ints Any w' (.slice ya Y.length yc) (Y) := fun w' h => Ints.ext hYr h
 have HY := Lib.hid hYx; clear hYr hYx
 have hgY := grown_refl w7 none
 clear hY_ hYi
 have hXY := G.mulV hX hYV
 obtain ⟨yl, hyl⟩ : ∃ yl, yl = Y.length := ⟨_, rfl⟩
 rw [← hyl] at HY ⊢
 have HYV := Lib.hid (And.intro hYV (And.intro hXY hyl)); clear hYV hXY hyl
 clear hg_
 clear hgw0 hdA hdw hdb hdlt HDi
 obtain ⟨b0_, b1_, b2_, b3_, _⟩ := id (HA.out w7 hgw).1
 go_wp2_with fail
 clear b0_ b1_ b2_ b3_
 refine Calls.mono (iCa_ok P w7 _ _ _ U Y _ _ _ (HA.out w7 hgw).2.1 (HA.out w7 hgw).2.2.1 (HY.out w7 hgY)) ?_
 rintro e8 w8 ⟨v8, rfl, hg_, ba, bn, bc, rfl, hB_⟩
 replace hgw := grown_trans hgw hg_
 replace hgAA := grown_trans hgAA hg_
 replace hgY := grown_trans hgY hg_
 rw [(HH.out.2.2.2.2.2.2.1 Y HYV.out.1).1]
 rw [(HH.out.2.2.2.2.2.2.1 Y HYV.out.1).2] at hB_
 have hBBr : Ints Any w8 (.slice ba bn bc) (caL0 P U Y) := hB_
 have hBBx : ∀ w', Ext w8 w' → Ints Any w' (.slice ba bn bc) (caL0 P U Y) := fun w' h => Ints.ext hBBr h
 have HBB := Lib.hid hBBx; clear hBBr hBBx
 have hgBB := grown_refl w8 none
 clear hB_
 clear hg_
 have f1_ : ∀ w', Ext w8 w' → w'.cell? ⟨pb, 0, none⟩ = some (.slice a1 n1 c1) := fun w' h => (HA.out w' (grown_trans hgw h)).1.2.1
 have f2_ : ∀ w', Ext w8 w' → w'.cell? ⟨pb, 1, none⟩ = some (.slice a2 n2 c2) := fun w' h => (HA.out w' (grown_trans hgw h)).1.2.2.1
 have f3_ : ∀ w', Ext w8 w' → w'.cell? ⟨pb, 2, none⟩ = some (.slice a3 n3 c3) := fun w' h => (HA.out w' (grown_trans hgw h)).1.2.2.2.1
 go_wp2
 go_region_held3 (fun w' => Ext w8 w') (first | exact grown_drew _ _ | assumption)
  (first
   | (go_at_call 78; refine Calls.mono (Calls.rel (w0 := w8) (by assumption) (iCa_ok P _ _ _ _ U (rMul P X0 Y) _ _ _ (HA.out _ (grown_trans hgw (by assumption))).2.1 (HA.out _ (grown_trans hgw (by assumption))).2.2.1 hMi)) ?_; rintro e9 w9 ⟨v9, rfl, hg_, _, ca_, cn, cc0, rfl, hC_⟩)
   | (go_at_call 81; refine Calls.mono (Calls.rel2 (w0 := w8) (by assumption) (mul9_ok P hr _ _ _ _ X0 Y _ _ _ (HA.out _ (grown_trans hgw (by assumption))).2.1 (HA.out _ (grown_trans hgw (by assumption))).2.2.2.1 (HY.out _ (grown_trans hgY (by assumption))) hX HYV.out.1)) ?_; rintro eM wM ⟨vM, rfl, hgM, _, _, ma, mn, mc, rfl, hM_⟩; have hMi := hM_.ints (by rw [HYV.out.2.1.1]; omega)))
 clear f1_ f2_ f3_
 replace hgw := grown_trans hgw hg_
 replace hgAA := grown_trans hgAA hg_
 replace hgY := grown_trans hgY hg_
 replace hgBB := grown_trans hgBB hg_
 rw [(HH.out.2.2.2.2.2.2.1 _ HYV.out.2.1).1]
 rw [(HH.out.2.2.2.2.2.2.1 _ HYV.out.2.1).2] at hC_
 have hCr : Ints Any w9 (.slice ca_ cn cc0) (caL0 P U (rMul P X0 Y)) := hC_
 have hCx : ∀ w', Ext w9 w' → Ints Any w' (.slice ca_ cn cc0) (caL0 P U (rMul P X0 Y)) := fun w' h => Ints.ext hCr h
 have HC := Lib.hid hCx; clear hCr hCx
 have hgC := grown_refl w9 none
 clear hC_ hMi hM_ hgM hg_
 go_wp2_with fail
 refine Calls.mono (iCompose_ok (ixN P U) (caL0 P U X0) (caL0 P U Y) h128 (HH.out.1 _ hX) (HH.out.1 _ HYV.out.1) w9 _ _ Any Any (HAA.out w9 hgAA) (HBB.out w9 hgBB)) ?_
 rintro e10 w10 ⟨v10, rfl, hg_, da, dn, dc, rfl, hD_⟩
 replace hgw := grown_trans hgw hg_
 replace hgAA := grown_trans hgAA hg_
 replace hgY := grown_trans hgY hg_
 replace hgBB := grown_trans hgBB hg_
 replace hgC := grown_trans hgC hg_
 rw [HH.out.2.1 Y HYV.out.1] at hD_
 have hDr : Ints Any w10 (.slice da dn dc) (caL0 P U (rMul P X0 Y)) := hD_
 have hDx : ∀ w', Ext w10 w' → Ints Any w' (.slice da dn dc) (caL0 P U (rMul P X0 Y)) := fun w' h => Ints.ext hDr h
 have HD := Lib.hid hDx; clear hDr hDx
 have hgD := grown_refl w10 none
 clear hD_ HBB hgBB HAA hgAA
 clear hg_
 go_wp2_with fail
 refine Calls.mono (likeInts_ok _ _ _ _ w10 Any Any (HC.out w10 hgC) (HD.out w10 hgD)) ?_
 rintro e11 w11 ⟨v11, rfl, hg_, rfl⟩
 replace hgw := grown_trans hgw hg_
 replace hgY := grown_trans hgY hg_
 replace hgC := grown_trans hgC hg_
 replace hgD := grown_trans hgD hg_
 rw [show eqB (caL0 P U (rMul P X0 Y)) (caL0 P U (rMul P X0 Y)) = true from eqB_true.2 rfl]
 clear HC hgC HD hgD
 clear hg_
 obtain ⟨b0_, b1_, b2_, b3_, _⟩ := id (HA.out w11 hgw).1
 go_wp2_with fail
 clear b0_ b1_ b2_ b3_
 refine Calls.mono (iTr_ok P hr w11 _ _ U _ _ (HA.out w11 hgw).2.1 (HA.out w11 hgw).2.2.1 hUB h128) ?_
 rintro e12 w12 ⟨v12, rfl, hg_, la, ln, lc, rfl, hL_⟩
 replace hgw := grown_trans hgw hg_
 replace hgY := grown_trans hgY hg_
 have hLr : Rows2 Any w12 (.slice la ln lc) (trT P (frI P U)) := hL_
 have hLx : ∀ w', Ext w12 w' → Rows2 Any w' (.slice la ln lc) (trT P (frI P U)) := fun w' h => Rows2.ext hLr h
 have HL := Lib.hid hLx; clear hLr hLx
 have hgL := grown_refl w12 none
 clear hL_
 clear hg_
 obtain ⟨Tr, hTr⟩ : ∃ Tr, Tr = trT P (frI P U) := ⟨_, rfl⟩
 have htl := HH.out.2.2.2.2.2.1
 have htr := HH.out.2.2.1
 have hcrt := HH.out.2.2.2.1
 rw [← hTr] at HL htl htr hcrt
 obtain ⟨N, hN⟩ : ∃ N, N = ixN P U := ⟨_, rfl⟩
 rw [← hN] at htl htr hcrt h128
 obtain rfl : N = ln := by
  obtain ⟨a, c, e, _⟩ := Sl.shape (HL.out _ hgL)
  cases e; exact htl.symm
 have hixm := HH.out.2.2.2.2.1
 rw [← hN] at hixm
 have HT := Lib.hid (And.intro htl (And.intro htr (And.intro hcrt hixm))); clear htl htr hcrt hTr hN hixm
 obtain ⟨b0_, b1_, b2_, b3_, _⟩ := id (HA.out w12 hgw).1
 go_wp2_with fail
 clear b0_ b1_ b2_ b3_
 refine Calls.mono (iOrder_ok P hr w12 _ _ U _ _ (HA.out w12 hgw).2.1 (HA.out w12 hgw).2.2.1 hUB) ?_
 rintro e13 w13 ⟨v13, rfl, hg_, rfl⟩
 replace hgw := grown_trans hgw hg_
 replace hgY := grown_trans hgY hg_
 replace hgL := grown_trans hgL hg_
 have hsz := HT.out.2.2.2
 obtain ⟨so, hso⟩ : ∃ so, so = prodU P U U.length := ⟨_, rfl⟩
 rw [← hso] at hsz ⊢
 clear hso
 clear hg_
 obtain ⟨op, hope⟩ : ∃ op, op = ordP P := ⟨_, rfl⟩
 have hop2 : op ≤ 729 ∧ 0 < op := by rw [hope]; exact ⟨h729, by omega⟩
 rw [← hope] at hsz
 have HOP := Lib.hid (And.intro hope hsz); clear hsz hope h729 hop
 obtain ⟨b0_, b1_, b2_, b3_, _⟩ := id (HA.out w13 hgw).1
 go_wp2_with fail
 clear b0_ b1_ b2_ b3_
 refine Calls.mono (size9_ok P hr w13 _ _ (HA.out w13 hgw).2.1) ?_
 rintro e14 w14 ⟨v14, rfl, hg_, rfl⟩
 replace hgw := grown_trans hgw hg_
 replace hgY := grown_trans hgY hg_
 replace hgL := grown_trans hgL hg_
 rw [← HOP.out.1]
 have hsz := HOP.out.2
 have hwr : (wrap64 ((N : Int) * so) != op) = false := by rw [hsz, IntWalk.wrap64_in _ (by omega)]; simp
 clear hg_
 clear hsz HOP
 obtain ⟨wk, rfl⟩ : ∃ wk : World, wk = w14 := ⟨_, rfl⟩
 go_wp2
 clear hwr
 go_loopw [22] (fun tv wr => ∃ t : Nat, tv = .int .i64 (t : Int) ∧ t ≤ N ∧ Ext wk wr) (fun tv _ => N - (intOf tv).toNat)
 case atStart => exact ⟨0, rfl, by omega, grown_refl _ _⟩
 case round =>
  obtain ⟨t, rfl, ht, hg⟩ := hrel
  obtain ⟨w15, rfl⟩ : ∃ wo : World, wo = wr := ⟨_, rfl⟩
  replace hgw := grown_trans hgw hg
  replace hgL := grown_trans hgL hg
  replace hgY := grown_trans hgY hg
  by_cases hlt : t < N
  ·have hlt' : (t : Int) < N := by omega
   obtain ⟨hzV, hzn⟩ := HT.out.2.1 t hlt
   obtain ⟨rb, ro, ax, capx, hab, _, _, hcx, hx⟩ := Rows2.at (HL.out w15 hgL) t (by rw [HT.out.1]; exact hlt)
   subst hab
   obtain ⟨z, hze⟩ : ∃ z, z = gt Tr t := ⟨_, rfl⟩
   rw [← hze] at hcx hx hzV hzn
   have HZ := Lib.hid (And.intro hzV (And.intro hzn hx)); clear hzV hzn hx hze
   have f1_ : ∀ w', Ext w15 w' → w'.cell? ⟨pb, 0, none⟩ = some (.slice a1 n1 c1) := fun w' h => (HA.out w' (grown_trans hgw h)).1.2.1
   have f2_ : ∀ w', Ext w15 w' → w'.cell? ⟨pb, 1, none⟩ = some (.slice a2 n2 c2) := fun w' h => (HA.out w' (grown_trans hgw h)).1.2.2.1
   have f3_ : ∀ w', Ext w15 w' → w'.cell? ⟨pb, 2, none⟩ = some (.slice a3 n3 c3) := fun w' h => (HA.out w' (grown_trans hgw h)).1.2.2.2.1
   have f4_ : ∀ w', Ext w15 w' → w'.cell? ⟨rb, ro + t, none⟩ = some (.slice ax z.length capx) := fun w' h => h.cell hcx (by simp)
   clear hcx
   go_wp2
   go_region_held3 (fun w' => Ext w15 w') (first | exact grown_drew _ _ | assumption)
    (first
     | (go_at_call 84; refine Calls.mono (Calls.rel (w0 := w15) (by assumption) (iCn_ok P hr _ _ _ _ U z _ _ _ (HA.out _ (grown_trans hgw (by assumption))).2.1 (HA.out _ (grown_trans hgw (by assumption))).2.2.1 (Ints.extA HZ.out.2.2 (by assumption)) hUB HZ.out.1)) ?_; rintro e6 w6 ⟨v6, rfl, hg6, _, rfl⟩))
   clear f1_ f2_ f3_ f4_
   have hgn := grown_trans hg hg6
   have hzn := HZ.out.2.1
   rw [hzn]
   clear hzn HZ
   go_wp2
   go_roundw
   case rel => exact ⟨t + 1, by go_num, by omega, hgn⟩
   case measure => simp [intOf]; omega
  ·have hnl : ¬ (t : Int) < N := by omega
   have hcrY := HT.out.2.2.1 Y HYV.out.1
   have HCR := Lib.hid hcrY; clear hcrY
   clear hlt hg ht
   obtain ⟨b0_, b1_, b2_, b3_, _⟩ := id (HA.out w15 hgw).1
   go_wp2_with fail
   clear b0_ b1_ b2_ b3_
   refine Calls.mono (iCn_ok P hr w15 _ _ _ U Y _ _ _ (HA.out w15 hgw).2.1 (HA.out w15 hgw).2.2.1 (HY.out w15 hgY) hUB HYV.out.1) ?_
   rintro e16 w16 ⟨v16, rfl, hg_, rfl⟩
   replace hgw := grown_trans hgw hg_
   replace hgY := grown_trans hgY hg_
   replace hgL := grown_trans hgL hg_
   clear hnl
   obtain ⟨q, hq⟩ : ∃ q, q = cnV P U Y := ⟨_, rfl⟩
   have hcrY := HCR.out
   rw [← hq] at hcrY ⊢
   have HQ := Lib.hid (And.intro hcrY.2 hq)
   have hqN : q < N := hcrY.1
   clear hcrY hq HCR
   clear hg_
   obtain ⟨b0_, b1_, b2_, b3_, _⟩ := id (HA.out w16 hgw).1
   go_wp2_with fail
   clear b0_ b1_ b2_ b3_
   refine Calls.mono (iCosRep_ok P w16 _ _ _ U Y _ _ _ (HA.out w16 hgw).2.1 (HA.out w16 hgw).2.2.1 (HY.out w16 hgY)) ?_
   rintro e17 w17 ⟨v17, rfl, hg_, za, zn, zc, rfl, hZ_⟩
   replace hgw := grown_trans hgw hg_
   replace hgY := grown_trans hgY hg_
   replace hgL := grown_trans hgL hg_
   rw [crC_ok ⟨HH.out.2.2.2.2.2.2.2.1, HYV.out.1⟩]
   have hZr : Ints Any w17 (.slice za zn zc) (crV P U Y) := hZ_
   have hZx : ∀ w', Ext w17 w' → Ints Any w' (.slice za zn zc) (crV P U Y) := fun w' h => Ints.ext hZr h
   have HZ := Lib.hid hZx; clear hZr hZx
   have hgZ := grown_refl w17 none
   clear hZ_
   clear hg_
   obtain ⟨rb, ro, ax, capx, hab, _, _, hcx, hx⟩ := Rows2.at (HL.out w17 hgL) q (by rw [HT.out.1]; exact hqN)
   subst hab
   rw [HQ.out.1] at hcx hx
   have hlk := likeInts_ok (.slice ax (crV P U Y).length capx) (.slice za zn zc) (crV P U Y) (crV P U Y) w17 _ Any hx (HZ.out w17 hgZ)
   rw [show eqB (crV P U Y) (crV P U Y) = true from eqB_true.2 rfl] at hlk
   have HLK := Lib.hid hlk; clear hlk hx
   have hq0 : (0 : Int) ≤ (q : Int) := by omega
   have hqN' : (q : Int) < (N : Int) := by omega
   obtain ⟨cl, hcl⟩ : ∃ cl, cl = (crV P U Y).length := ⟨_, rfl⟩
   rw [← hcl] at hcx HLK
   clear hcl
   go_wp2_with fail
   refine Calls.mono HLK.out ?_
   rintro eE wE ⟨vE, rfl, hgE, rfl⟩
   clear hcx
   go_wp2
   go_ret
   exact ⟨_, rfl, grown_trans HA0.out.2.2.2.1 (grown_trans hgw hgE), rfl⟩
end Go.Proofs.YtmjkoejegfjbbaaGreat
namespace Go.Proofs.YtmjkoejegfjbbaaGreat
open Go.RowKit Go.ChangeShapes Go.WideShapes Go.Deep
section
variable {H : Type} {enc : TypeId × Value → H} {W : World} {sp : Nat → Bool}
theorem open_sl {α : Type} [Inhabited α] {El : World → Value → α → Prop} {t e : TypeId} (ht : Tryz.prog.underlying t = some (.slice e)) (hc : Tryz.prog.cellsOf e = 1)
  (hEl : ∀ n c x, DataW.trod enc Tryz.prog W 0 sp true n e [c] = some x → ∃ y, El W c y) {fuel : Nat} {c : Value} {x : DataW H × List MemPlace} (h : DataW.trod enc Tryz.prog W 0 sp true fuel t [c] = some x) :
  ∃ xs : List α, Sl El Any W c xs := by
 rcases open_slice1 ht hc h with ⟨hcs, _⟩ | ⟨a, len, cap, m, n, V, D, Pl, hcs, _, hl, hm, hmm, _, hx⟩
 ·cases hcs
  exact ⟨[], none, 0, rfl, ⟨by simp, by simp, fun _ => rfl⟩, fun i hi => by simp at hi⟩
 ·cases hcs
  have hlm : len ≤ m := by rw [hmm]; split <;> omega
  obtain ⟨Z, hZ⟩ := choose_lt (α := α) (n := len) (p := fun i y => El W (V i) y) (fun i hi => hEl n (V i) _ (hx i (by omega)).2)
  refine ⟨(List.range len).map Z, some a, cap, by simp, ⟨by simpa using hl, by simp; unfold maxLen at hm; omega, fun h => by cases h⟩, fun i hi => ?_⟩
  simp only [List.length_map, List.length_range] at hi
  obtain ⟨h1, h2⟩ := hx i (by omega)
  obtain ⟨b, off, spot⟩ := a
  have hs : spot = none := by
   have h0 := (hx 0 (by omega)).1
   exact World.cell?_spot (by simpa [Addr.add] using h0)
  subst hs
  have hcell : W.cell? ⟨b, off + i, none⟩ = some (V i) := by
   have e : (⟨b, off, none⟩ : Addr).add i = ⟨b, off + i, none⟩ := by
    unfold Addr.add; split
    ·rename_i h; subst h; rfl
    ·rfl
   rw [← e]; exact h1
  refine ⟨b, off, V i, rfl, trivial, World.block_lt_of_cell? W _ hcell, hcell, ?_⟩
  have : gt ((List.range len).map Z) i = Z i := by simp [gt, hi]
  rw [this]; exact hZ i hi
end
end Go.Proofs.YtmjkoejegfjbbaaGreat
namespace Go.Proofs.YtmjkoejegfjbbaaGreat
open Go.RowKit Go.ChangeShapes Go.WideShapes Go.ChangeAt
theorem ownB : ownKnob Tryz.prog.godebug = none := by kernel_rfl
theorem laidOutP : laidOutB Tryz.prog = true := by kernel_rfl
theorem und_u8 : Tryz.prog.underlying 5 = some (.int .u8) := by kernel_rfl
theorem und_bytesB : Tryz.prog.underlying 22 = some (.slice 5) := by kernel_rfl
theorem cells_u8 : Tryz.prog.cellsOf 5 = 1 := by kernel_rfl
theorem open_u8 {H : Type} {enc : TypeId × Value → H} {W : World} {sp : Nat → Bool} {n : Nat} {c : Value} {x : DataW H × List MemPlace} (h : DataW.trod enc Tryz.prog W 0 sp true n 5 [c] = some x) : ∃ y, ByteEl W c y := by
 cases n with
 | zero => simp [DataW.trod] at h
 | succ n =>
  unfold DataW.trod at h
  rw [und_u8] at h
  cases c <;> simp at h
  rename_i k z
  obtain ⟨⟨rfl, hz⟩, _⟩ := h
  have hz2 : 0 ≤ z ∧ z ≤ 255 := by
   have h2 := hz
   simp [Lit.wf, IntKind.min, IntKind.max, IntKind.signed, IntKind.bits] at h2
   omega
  exact ⟨z, rfl, hz2⟩
theorem open_bytes {H : Type} {enc : TypeId × Value → H} {W : World} {sp : Nat → Bool} {n : Nat} {c : Value} {x : DataW H × List MemPlace} (h : DataW.trod enc Tryz.prog W 0 sp true n 22 [c] = some x) : ∃ l, Bytes Any W c l :=
 open_sl (El := ByteEl) und_bytesB cells_u8 (fun _ _ _ h => open_u8 h) h
end Go.Proofs.YtmjkoejegfjbbaaGreat
namespace Go.Proofs.YtmjkoejegfjbbaaGreat.RowCaOf
open Go.RowKit Go.ChangeShapes Go.WideShapes Go.ChangeAt
set_option maxRecDepth 100000 in
set_option maxHeartbeats 1000000 in
theorem lifted (os : Os) (started : os.Started) (H : Type) (enc : TypeId × Value → H) :
  ReturnsInHanded {} Tryz.checked os 10 .any (Rows.fnCosetActionsSpec.pre6 enc Tryz.prog Tryz.f10 Rows.fnCosetActionsRow.domain false) (Rows.fnCosetActionsSpec.post enc Tryz.prog Tryz.f10 false true false false) := by
 refine returnsInHanded_of_change (C := Tryz.checked) (s := Rows.fnCosetActionsSpec) ownB started (by kernel_rfl) Tryz.func10
  (ChangeSpec.witness6 (enc := enc) (C := Tryz.checked) (s := Rows.fnCosetActionsSpec) false ⟨#[], #[.slice none 0 0], []⟩ 8 (by kernel_rfl) (by kernel_rfl) (by kernel_rfl) (by kernel_rfl) (by kernel_rfl)) ?_
 intro W base args ds gs before hval0 hW _ _
 have hW' := hW
 obtain ⟨p, q, hA0, hV, rfl, _, _⟩ := hW
 have hA : DataW.TrodAll enc Tryz.prog W 0 (fun _ => true) true Tryz.f10.params.toList args.toList ds p := hA0
 rw [Tryz.params10] at hA
 obtain ⟨v0, vs0, d0, ds0, p0, q0, hargs, rfl, rfl, h0, r0⟩ := trodAll_cons hA
 obtain ⟨rfl, rfl, rfl⟩ := trodAll_nil r0
 obtain rfl : args = #[v0] := by cases args; simp_all
 obtain ⟨rfl, rfl⟩ := trodVars_none hV
 have hval : Value.okWide Tryz.prog W .any base 22 v0 := hval0 0 _ _ (by rw [Tryz.params10]; rfl) rfl
 obtain ⟨b0, n0, c0, rfl⟩ := okWide_slice und_bytesB hval
 obtain ⟨f0, hf0⟩ := h0
 obtain ⟨l, hP⟩ := open_bytes (c := .slice b0 n0 c0) hf0
 have hlt : ∀ x ∈ p0, x.block < W.heap.size := fun x hx => by simpa using hW'.lt x (by simpa using hx)
 clear hA0
 simp only [List.append_nil] at hW'
 refine (lawCa_ok W (.slice b0 n0 c0) l Any hP).mono fun e W' ⟨v, he, hg, hv⟩ => ?_
 subst he; subst hv
 have hb : Below W.heap.size W W' := hg.below
 have hargs2 := Below.trod laidOutP (by kernel_rfl) (of_decide_eq_true (by kernel_rfl)) ⟨f0, hf0⟩ hb hlt
 exact ⟨_, rfl, [d0], [], p0, [], p0, [], hW', trodAll_mk1 (shut_bool Tryz.underlying4 _), trodAll_mk1 hargs2, rfl, hb.frame _, fun h => by cases h⟩
theorem c0 : Rows.fnCosetActionsRow.wf (OpenSpec.ofChange Rows.fnCosetActionsSpec) = true := by kernel_rfl
theorem c1 : laidOutB Tryz.pinned.checked.prog = true := by kernel_rfl
theorem c2 : mapsRowed Tryz.pinned.checked.prog = true := by kernel_rfl
theorem c3 : Tryz.f10.params.all (Tryz.pinned.checked.prog.readableRec ·) = true := by kernel_rfl
theorem c4 : namedTie Tryz.pinned.checked.prog Rows.fnCosetActionsRow.named Rows.fnCosetActionsSpec.vars = true := by kernel_rfl
theorem c5 : (Rows.fnCosetActionsRow.stops == []) = true := by kernel_rfl
theorem c6 : (Tryz.pinned.checked.prog.stops == []) = true := by kernel_rfl
theorem c7 : (Rows.fnCosetActionsRow.knobs == []) = true := by kernel_rfl
theorem c8 : (Tryz.pinned.checked.prog.stopKnobs == []) = true := by kernel_rfl
theorem c9 : (Rows.fnCosetActionsRow.inPlace == Tryz.pinned.checked.prog.inPlace 10) = true := by kernel_rfl
theorem c10 : (Rows.fnCosetActionsRow.unfollowed == Tryz.pinned.checked.prog.unfollowed 10) = true := by kernel_rfl
theorem c11 : (Rows.fnCosetActionsRow.recurses == Tryz.pinned.checked.prog.recurses 10) = true := by kernel_rfl
theorem c12 : (Rows.fnCosetActionsRow.named == Tryz.pinned.checked.prog.varsNamed 10) = true := by kernel_rfl
theorem c13 : (Rows.fnCosetActionsRow.maps == (Tryz.f10.params.toList ++ Rows.fnCosetActionsSpec.plain.varTypes Tryz.pinned.checked.prog).any (Tryz.pinned.checked.prog.mapsRec ·)) = true := by kernel_rfl
theorem c14 : (Rows.fnCosetActionsRow.ifaces == (Tryz.f10.params.toList ++ Rows.fnCosetActionsSpec.plain.varTypes Tryz.pinned.checked.prog).any (Tryz.pinned.checked.prog.ifacesRec ·)) = true := by kernel_rfl
theorem c15 : (Rows.fnCosetActionsRow.mapsOut == Tryz.pinned.checked.prog.mapsAmong Tryz.f10.resultTypes.toList) = true := by kernel_rfl
theorem c16 : (Rows.fnCosetActionsRow.loops == (Tryz.f10.params.toList ++ Rows.fnCosetActionsSpec.plain.varTypes Tryz.pinned.checked.prog).any (Tryz.pinned.checked.prog.loopsFrom ·)) = true := by kernel_rfl
theorem c17 : (Rows.fnCosetActionsRow.wideKeys == (Tryz.f10.params.toList ++ Rows.fnCosetActionsSpec.plain.varTypes Tryz.pinned.checked.prog ++ Tryz.f10.resultTypes.toList).any (Tryz.pinned.checked.prog.wideKeysFrom ·)) = true := by kernel_rfl
theorem c18 : Rows.fnCosetActionsSpec.vars.all (Tryz.pinned.checked.prog.varReadable ·) = true := by kernel_rfl
theorem c19 : Tryz.f10.resultTypes.all (fun t => Tryz.pinned.checked.prog.readableRec t && decide (t < Tryz.pinned.checked.prog.types.size)) = true := by kernel_rfl
theorem c20 : (Rows.fnCosetActionsRow.ifacesOut == Tryz.f10.resultTypes.toList.any (Tryz.pinned.checked.prog.ifacesRec ·)) = true := by kernel_rfl
theorem c21 : (Rows.fnCosetActionsRow.loopsOut == Tryz.f10.resultTypes.toList.any (Tryz.pinned.checked.prog.loopsFrom ·)) = true := by kernel_rfl
theorem c22 : (Rows.fnCosetActionsRow.plainKeys == Tryz.pinned.checked.prog.plainKeys) = true := by kernel_rfl
theorem c23 : Rows.fnCosetActionsRow.shortTexts.isNone = true := by kernel_rfl
theorem c24 : Tryz.pinned.checked.prog.stopsHeard = true := by kernel_rfl
theorem c25 : Tryz.pinned.checked.prog.mayEnter = true := by kernel_rfl
theorem c26 : (Rows.fnCosetActionsRow.lifted == Tryz.pinned.checked.prog.liftsFinal) = true := by kernel_rfl
theorem c27 : (Tryz.pinned.checked.prog.make == some Rows.fnCosetActionsRow.make) = true := by kernel_rfl
theorem c28 : (Rows.fnCosetActionsRow.kinds == (if Rows.fnCosetActionsRow.domain.isEmpty then [] else Tryz.f10.params.toList.map fun t => match Tryz.pinned.checked.prog.underlying t with | some (.int k) => some k | _ => none)) = true := by kernel_rfl
theorem c29 : (Rows.fnCosetActionsRow.pinned == Rows.fnCosetActionsRow.pinnedBy) = true := by kernel_rfl
theorem c30 : (Rows.fnCosetActionsRow.veiled == (Tryz.f10.params.toList ++ Rows.fnCosetActionsSpec.plain.varTypes Tryz.pinned.checked.prog ++ Tryz.f10.resultTypes.toList).any (Tryz.pinned.checked.prog.veiledRec ·)) = true := by kernel_rfl
theorem c31 : Rows.fnCosetActionsRow.veiledFits Tryz.pinned.checked.prog Tryz.f10.params.toList (Tryz.f10.params.toList ++ Rows.fnCosetActionsSpec.plain.varTypes Tryz.pinned.checked.prog ++ Tryz.f10.resultTypes.toList) = true := by kernel_rfl
set_option maxRecDepth 1000000 in
theorem facts : joinedFacts Tryz.pinned.checked.prog 10 Tryz.f10 Rows.fnCosetActionsSpec Rows.fnCosetActionsRow = true :=
 Bool.and_eq_true_iff.2 ⟨Bool.and_eq_true_iff.2 ⟨Bool.and_eq_true_iff.2 ⟨Bool.and_eq_true_iff.2 ⟨Bool.and_eq_true_iff.2 ⟨Bool.and_eq_true_iff.2 ⟨Bool.and_eq_true_iff.2 ⟨Bool.and_eq_true_iff.2 ⟨Bool.and_eq_true_iff.2 ⟨Bool.and_eq_true_iff.2 ⟨Bool.and_eq_true_iff.2 ⟨Bool.and_eq_true_iff.2 ⟨Bool.and_eq_true_iff.2 ⟨Bool.and_eq_true_iff.2 ⟨Bool.and_eq_true_iff.2 ⟨Bool.and_eq_true_iff.2 ⟨Bool.and_eq_true_iff.2 ⟨Bool.and_eq_true_iff.2 ⟨Bool.and_eq_true_iff.2 ⟨Bool.and_eq_true_iff.2 ⟨Bool.and_eq_true_iff.2 ⟨Bool.and_eq_true_iff.2 ⟨Bool.and_eq_true_iff.2 ⟨Bool.and_eq_true_iff.2 ⟨Bool.and_eq_true_iff.2 ⟨Bool.and_eq_true_iff.2 ⟨Bool.and_eq_true_iff.2 ⟨Bool.and_eq_true_iff.2 ⟨Bool.and_eq_true_iff.2 ⟨Bool.and_eq_true_iff.2 ⟨Bool.and_eq_true_iff.2 ⟨c0, c1⟩, c2⟩, c3⟩, c4⟩, c5⟩, c6⟩, c7⟩, c8⟩, c9⟩, c10⟩, c11⟩, c12⟩, c13⟩, c14⟩, c15⟩, c16⟩, c17⟩, c18⟩, c19⟩, c20⟩, c21⟩, c22⟩, c23⟩, c24⟩, c25⟩, c26⟩, c27⟩, c28⟩, c29⟩, c30⟩, c31⟩
theorem proved : Rows.FnCosetActionsSaid :=
 OpenClaim.holds_of_wide 10 Tryz.f10 rfl rfl rfl rfl rfl rfl rfl ⟨rfl, rfl, rfl, rfl, rfl⟩ rfl rfl rfl rfl rfl (by kernel_rfl) Tryz.func10 facts
  (of_decide_eq_true (by kernel_rfl)) (by unfold Func.isWrapper; first | (rw [if_pos (by decide +kernel)]; kernel_rfl) | (rw [if_neg (by decide +kernel)]; exact ⟨rfl, rfl⟩))
  (fun os started H enc _ => lifted os started H enc)
#print axioms proved
end Go.Proofs.YtmjkoejegfjbbaaGreat.RowCaOf
