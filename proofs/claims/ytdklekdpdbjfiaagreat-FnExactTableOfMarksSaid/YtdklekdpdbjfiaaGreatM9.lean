/-
  The members that a mask tells, one after the other.
  spec.l19Holds, l19Moved: the mask of a conjugate.
  spec.l19Code, l19All, l19Own.
  spec.l19Classes: the classes of conjugate subgroups.
  The library's sort on a slice that the call has built: any elements of one cell in blocks of their own, any comparison that lays blocks and draws but turns nothing.
  The library's sort at [][][]int64 with the lattice's comparison.
  impl.latticeOf.
  SubgroupClasses on both sides.
  The laws' measure of an argument: laws.szInt64S, szInt64SS, szInt64SSS, szPresentation.
  The laws' copies of an argument: laws.toInt64S, toInt64SS, toInt64SSS, toPresentation: each part in blocks of its own.
  laws.toPresentation: a copy of a presentation, each part in blocks of its own.
  laws.eqInt64S.
  The laws' comparisons: laws.eqInt64SS, eqInt64SSS, eqPresentation.
  The laws' marks: laws.markInt64S.., heldInt64S..: each place of a value is given a number of its own, and looked at again.
  The laws' look at marked rows of rows: laws.heldInt64SS, heldInt64SSS.
  Plain: the left cosets that are fixed: the representative of y x is x exactly if the conjugate of y by x lies in the subgroup.
  Plain: the transversal of a sequence, listed by the program and by number.
  Plain: the elements of a consistent presentation as a type with products; subgroups, cosets, their counting.
  Plain: Hall's theorem: subgroups for a set of primes exist, and every subgroup whose order has only these primes lies in a conjugate of a given one.
  Plain: Hall subgroups as sequences: the orders, the way up to one, their one class, the one ascending list.
  The codes and orders of Hall subgroups: impl.hallOrder, isPrimeSet, hallCode; spec.l20Primes, l20Code.
  The codes of Hall subgroups: impl.hallCode; spec.l20Primes, l20Code.
  spec.l01Part, l20Part: the part of an order for a set of primes.
  Plain: the index of a subgroup as a product over the free indices; the number of fixed cosets.
  spec.l12Within.
  impl.meet, impl.productSize.
  spec.l13Conj: a conjugate of a subgroup.
  The subgroup of a list.
  The rows' arguments: how a presentation that came in, or a list, reads in this claim's words.
-/
import Derived.Test.YtdklekdpdbjfiaaGreatM5
import Derived.Test.YtdklekdpdbjfiaaGreatM6
import Derived.Test.YtdklekdpdbjfiaaGreatM8
import Derived.Test.YtdklekdpdbjfiaaGreatM7
import Derived.Test.YtdklekdpdbjfiaaGreatM4
import Derived.Test.YtdklekdpdbjfiaaGreatM1
import Derived.Deep.RegionHeld3
import Derived.Carry
import Derived.Deep.Slices
import Derived.ChangeSame
import Derived.ChangeSlices
import Derived.JoinedOf
import Derived.JoinedAt
import Derived.JoinedCond
import Derived.ReadAgain
/- The members that a mask tells, one after the other. -/
namespace Go.Proofs.YtdklekdpdbjfiaaGreat
open Go.RowKit
def bitsTo (P : Pr) (m x : Nat) (y : List Int) : Prop := ∃ t, t < x ∧ m.testBit t = true ∧ y = elAt P (t : Int)
theorem bitsTo_zero (P : Pr) (m : Nat) : bitsTo P m 0 = fun _ => False :=
 funext fun y => propext ⟨fun ⟨t, h, _⟩ => by omega, fun h => h.elim⟩
theorem bitsTo_skip {P : Pr} {m x : Nat} (h : m.testBit x = false) : bitsTo P m (x + 1) = bitsTo P m x := by
 funext y
 refine propext ⟨fun ⟨t, h1, h2, h3⟩ => ?_, fun ⟨t, h1, h2, h3⟩ => ⟨t, by omega, h2, h3⟩⟩
 rcases Nat.lt_or_ge t x with h4 | h4
 ·exact ⟨t, h4, h2, h3⟩
 ·obtain rfl : t = x := by omega
  rw [h] at h2; cases h2
theorem bitsTo_add {P : Pr} {m x : Nat} (h : m.testBit x = true) : genP P (fun z => genP P (bitsTo P m x) z ∨ z ∈ [elAt P (x : Int)]) = genP P (bitsTo P m (x + 1)) := by
 rw [genP_or]
 congr 1
 funext z
 refine propext ⟨fun hz => ?_, fun ⟨t, h1, h2, h3⟩ => ?_⟩
 ·rcases hz with ⟨t, h1, h2, h3⟩ | hz
  ·exact ⟨t, by omega, h2, h3⟩
  ·exact ⟨x, by omega, h, by simpa using hz⟩
 ·rcases Nat.lt_or_ge t x with h4 | h4
  ·exact .inl ⟨t, h4, h2, h3⟩
  ·obtain rfl : t = x := by omega
   exact .inr (by simpa using h3)
section
variable {P : Pr} (G : Grp P)
include G
theorem Grp.bitsTo_all {H : List Int → Prop} (S : Sub P H) : genP P (bitsTo P (msk P H) (ordP P).toNat) = H := by
 have : bitsTo P (msk P H) (ordP P).toNat = H := funext fun y => propext ⟨fun ⟨t, h1, h2, h3⟩ => by
  rw [h3]; exact (msk_bit h1).1 h2, fun hy => by
  obtain ⟨h1, h2⟩ := G.num_lt (S.vec y hy)
  exact ⟨_, h1, (msk_bit h1).2 (by rw [h2]; exact hy), h2.symm⟩⟩
 rw [this]; exact genP_self S
end
end Go.Proofs.YtdklekdpdbjfiaaGreat

/- spec.l19Holds, l19Moved: the mask of a conjugate. -/
namespace Go.Proofs.YtdklekdpdbjfiaaGreat
open Go.RowKit
theorem i64_or_nat (a b : Nat) (ha : a < 2 ^ 32) (hb : b < 2 ^ 32) : bits .or .i64 (a : Int) (b : Int) = ((a ||| b : Nat) : Int) := by
 have hx : a ||| b < 2 ^ 32 := Nat.or_lt_two_pow ha hb
 have ha' : a < 4294967296 := ha
 have hb' : b < 4294967296 := hb
 have hx' : a ||| b < 4294967296 := hx
 show IntKind.i64.wrap ((BitVec.ofInt 64 (a : Int) ||| BitVec.ofInt 64 (b : Int)).toNat : Int) = _
 rw [BitVec.toNat_or, ofInt_u64 a (by omega), ofInt_u64 b (by omega)]
 exact IntWalk.i64_in _ ⟨by omega, by omega⟩
theorem mvN_lt {P : Pr} (G : Grp P) (h32 : ordP P ≤ 32) {m t bk : Nat} (ht : t < (ordP P).toNat) (hb : bk < (ordP P).toNat) : ∀ k, k ≤ (ordP P).toNat → mvN P m t bk k < 2 ^ 32
 | 0, _ => by show 0 < 2 ^ 32; decide
 | k + 1, hk => by
  have ih := mvN_lt G h32 ht hb k (by omega) (m := m)
  unfold mvN
  split
  ·have h1 := G.tb_lt hb (show k < (ordP P).toNat by omega)
   have h2 := G.tb_lt h1.1 ht
   exact Nat.or_lt_two_pow ih (Nat.pow_lt_pow_right (by decide) (by omega))
  ·exact ih
set_option maxRecDepth 100000 in
set_option maxHeartbeats 1000000 in
theorem l19Holds_ok (sl : List Nat) (x : Nat) (w : World) (v : Value) (S : Nat → Prop) (hv : Ints S w v (natI sl)) (hn : sl.length ≤ 100000) :
  Calls Tryz.prog 143 #[v, .int .i64 (x : Int)] w (Ret w fun _ v => v = .bool (decide (x ∈ sl))) := by
 obtain ⟨a, c, hva, _, _⟩ := hv.shape
 rw [natI_len] at hva
 subst hva
 have hv' : Sl IntEl S w (.slice a (natI sl).length c) (natI sl) := by rw [natI_len]; exact hv
 have HV := Lib.hid hv'; clear hv hv'
 go_enter Tryz.func143, Tryz.ntmps143
 go_wp2
 go_loopw [5] (fun iv wr => ∃ i : Nat, iv = .int .i64 i ∧ i ≤ sl.length ∧ Ext w wr ∧ Hid (∀ j, j < i → gt sl j ≠ x)) (fun iv _ => sl.length - (intOf iv).toNat)
 case atStart => exact ⟨0, by go_num, by omega, Ext.refl _, Lib.hid (fun j hj => by omega)⟩
 case round =>
  obtain ⟨i, rfl, hi, hg, hN⟩ := hrel
  by_cases hlt : i < sl.length
  ·have hlt' : (i : Int) < sl.length := by omega
   obtain ⟨b, o, hab, _, _, hc⟩ := Ints.at HV.out i (by rw [natI_len]; exact hlt)
   subst hab
   rw [natI_gt hlt] at hc
   have hcr := hg.cell hc (by simp)
   by_cases he : gt sl i = x
   ·have hd : x ∈ sl := by rw [← he]; exact gtMem hlt
    rw [he] at hcr
    have HD := Lib.hid hd; clear hd he hc
    go_wp2
    go_ret
    exact ⟨_, rfl, hg, by simp [HD.out]⟩
   ·have hne : (((gt sl i : Nat) : Int) == (x : Int)) = false := by
     have : ¬ ((gt sl i : Nat) : Int) = (x : Int) := by omega
     simpa using this
    have hN2 : ∀ j, j < i + 1 → gt sl j ≠ x := fun j hj => by
     rcases Nat.lt_succ_iff_lt_or_eq.1 hj with h | h
     ·exact hN.out j h
     ·rw [h]; exact he
    have HN2 := Lib.hid hN2; clear hN2 he hc hN
    generalize gt sl i = y at *
    go_wp2
    clear hne
    go_roundw
    case rel => exact ⟨i + 1, by go_num, by omega, hg, HN2⟩
    case measure => simp [intOf]; omega
  ·have hie : i = sl.length := by omega
   have hd : ¬ x ∈ sl := fun h => by
    obtain ⟨j, hj, e⟩ := List.getElem_of_mem h
    rw [← gt_eq sl j hj] at e
    exact hN.out j (by omega) e
   have hnl : ¬ (i : Int) < sl.length := by omega
   have HD := Lib.hid hd; clear hd hie hN
   go_wp2
   go_ret
   exact ⟨_, rfl, hg, by simp [HD.out]⟩
set_option maxRecDepth 100000 in
set_option maxHeartbeats 4000000 in
theorem l19Moved_ok (P : Pr) (G : Grp P) (h32 : ordP P ≤ 32) (u : List (List Int)) (hu : SubB P u) (t : Nat) (ht : t < (ordP P).toNat) (w : World) (tv : Value) (S : Nat → Prop) (htv : Rows2 S w tv (tabL P)) :
  Calls Tryz.prog 144 #[tv, .int .i64 ((mskU P u : Nat) : Int), .int .i64 (t : Int)] w (Ret w fun _ v => v = .int .i64 ((mskU P (cjU P u (elAt P (t : Int))) : Nat) : Int)) := by
 obtain ⟨at', capt, rfl, _, _⟩ := Sl.shape htv
 have hpos := G.v.ordP_pos
 have hT := G.elAtV ht
 obtain ⟨N, hN⟩ : ∃ N, N = (ordP P).toNat := ⟨_, rfl⟩
 have hN32 : N ≤ 32 := by omega
 have hlen : (tabL P).length = N := by rw [tabL_len, hN]
 have htN : Rows2 S w (.slice at' N capt) (tabL P) := by rw [← hlen]; exact htv
 rw [hlen]
 have hnz : (num P (zeros P.orders.length)).toNat = 0 := by rw [num_zeros G.v]; rfl
 -- the place of the inverse
 obtain ⟨b0, hb0, hb0e⟩ : ∃ b0, b0 < N ∧ tb P t b0 = 0 := by
  obtain ⟨h1, h2⟩ := G.num_lt (G.invV hT)
  refine ⟨(num P (rInv P (elAt P (t : Int)))).toNat, by omega, ?_⟩
  unfold tb; rw [h2, G.mul_inv hT]; exact hnz
 have hback : ∀ bk, bk < N → tb P t bk = 0 → elAt P (bk : Int) = rInv P (elAt P (t : Int)) := fun bk hbk he => by
  have hB := G.elAtV (P := P) (show bk < (ordP P).toNat by omega)
  refine G.inv_of hT hB ?_
  have h1 := (G.tb_lt ht (show bk < (ordP P).toNat by omega)).2
  rw [he] at h1
  rw [← h1]
  obtain ⟨h3, h4⟩ := G.num_lt G.oneV
  rw [hnz] at h4
  exact h4
 have htN' : t < N := by omega
 have HB := Lib.hid (And.intro hN (And.intro hlen (And.intro hback (And.intro hu ht)))); clear hN hlen hback hu htv hpos hnz ht
 obtain ⟨m, hm⟩ : ∃ m, m = mskU P u := ⟨_, rfl⟩
 rw [← hm]
 have HM := Lib.hid hm; clear hm
 have htI : (t : Int) < N := by omega
 go_enter Tryz.func144, Tryz.ntmps144
 go_wp2
 go_loopw [7] (fun bv wr => ∃ bk : Nat, bv = .int .i64 bk ∧ bk ≤ b0 ∧ Ext w wr) (fun bv _ => 33 - (intOf bv).toNat)
 case atStart => exact ⟨0, by go_num, by omega, Ext.refl _⟩
 case round =>
  obtain ⟨bk, rfl, hbk, hg⟩ := hrel
  have hbN : bk < N := by omega
  have hbI : (bk : Int) < N := by omega
  obtain ⟨bt, ot, a2, cap2, hbt, _, _, hct, hrt⟩ := Rows2.at (Rows2.ext htN hg) t (by rw [HB.out.2.1]; exact htN')
  subst hbt
  have hrl : (gt (tabL P) t).length = N := by rw [tabL_row HB.out.2.2.2.2, HB.out.1]; simp
  obtain ⟨br, or', hbr, _, _, hcr⟩ := Ints.at hrt bk (by rw [hrl]; exact hbN)
  subst hbr
  rw [hrl] at hct
  rw [tabL_at HB.out.2.2.2.2 (by rw [← HB.out.1]; exact hbN)] at hcr
  by_cases hz : tb P t bk = 0
  ·have he := HB.out.2.2.1 bk hbN hz
   rw [hz] at hcr
   have HE := Lib.hid he; clear he hz hrl
   have hcr : wr.cell? ⟨br, or' + bk, none⟩ = some (.int .i64 0) := hcr
   go_wp2
   clear hcr hct hrt
   go_loopw [8, 9] (fun ov xv wr => ∃ x : Nat, ov = .int .i64 ((mvN P m t bk x : Nat) : Int) ∧ xv = .int .i64 x ∧ x ≤ N ∧ Ext w wr) (fun _ xv _ => N - (intOf xv).toNat)
   case atStart => exact ⟨0, rfl, by go_num, by omega, hg⟩
   case round =>
    clear hg
    obtain ⟨x, rfl, rfl, hx, hg⟩ := hrel
    by_cases hlt : x < N
    ·have hlt' : (x : Int) < N := by omega
     have hrem := bit_rem m x
     have hNe := HB.out.1
     have hxo : x < (ordP P).toNat := by omega
     have hbo : bk < (ordP P).toNat := by omega
     cases hbit : m.testBit x with
     | false =>
      rw [hbit] at hrem
      have hrem : ((m : Int) / 2 ^ x).tmod 2 = 0 := hrem
      have hst : mvN P m t bk (x + 1) = mvN P m t bk x := by rw [mvN, if_neg (by rw [hbit]; simp)]
      have HS := Lib.hid hst; clear hst hbit hNe hxo hbo
      generalize mvN P m t bk x = q at *
      go_wp2
      clear hrem
      go_roundw
      case rel => exact ⟨x + 1, by rw [HS.out], by go_num, by omega, hg⟩
      case measure => simp [intOf]; omega
     | true =>
      rw [hbit] at hrem
      have hrem : ((m : Int) / 2 ^ x).tmod 2 = 1 := hrem
      have hst : mvN P m t bk (x + 1) = mvN P m t bk x ||| 2 ^ tb P (tb P bk x) t := by rw [mvN, if_pos hbit]
      have hlq := mvN_lt G h32 HB.out.2.2.2.2 hbo x (by omega) (m := m)
      have h1 := (G.tb_lt hbo hxo).1
      have h2 := (G.tb_lt h1 HB.out.2.2.2.2).1
      obtain ⟨bt1, ot1, a21, cap21, hbt1, _, _, hct1, hrt1⟩ := Rows2.at (Rows2.ext htN hg) bk (by rw [HB.out.2.1]; exact hbN)
      have hrl1 : (gt (tabL P) bk).length = N := by rw [tabL_row hbo, HB.out.1]; simp
      obtain ⟨br1, or1, hbr1, _, _, hcr1⟩ := Ints.at hrt1 x (by rw [hrl1]; exact hlt)
      subst hbr1
      rw [hrl1] at hct1
      rw [tabL_at hbo hxo] at hcr1
      obtain ⟨y, hy⟩ : ∃ y, y = tb P bk x := ⟨_, rfl⟩
      rw [← hy] at hcr1 h1 h2 hst
      have hyN : y < N := by omega
      obtain ⟨bt2, ot2, a22, cap22, hbt2, _, _, hct2, hrt2⟩ := Rows2.at (Rows2.ext htN hg) y (by rw [HB.out.2.1]; exact hyN)
      have hrl2 : (gt (tabL P) y).length = N := by rw [tabL_row h1, HB.out.1]; simp
      obtain ⟨br2, or2, hbr2, _, _, hcr2⟩ := Ints.at hrt2 t (by rw [hrl2]; exact htN')
      subst hbr2
      rw [hrl2] at hct2
      rw [tabL_at h1 HB.out.2.2.2.2] at hcr2
      obtain ⟨z, hz⟩ : ∃ z, z = tb P y t := ⟨_, rfl⟩
      rw [← hz] at hcr2 h2 hst
      have hzN : z < N := by omega
      cases hbt1
      cases hbt2
      have hshl := shl_oneI z (by omega)
      have hp32 : (2 : Nat) ^ z < 2 ^ 32 := Nat.pow_lt_pow_right (by decide) (by omega)
      obtain ⟨p, hp⟩ : ∃ p, p = 2 ^ z := ⟨_, rfl⟩
      rw [← hp] at hshl hst hp32
      obtain ⟨q, hq⟩ : ∃ q, q = mvN P m t bk x := ⟨_, rfl⟩
      rw [← hq] at hlq hst ⊢
      have hor := i64_or_nat q p hlq hp32
      have hyI : (y : Int) < N := by omega
      have HS := Lib.hid hst; clear hst hbit hNe hxo hbo h1 h2 hrl1 hrl2 hy hz hp hq hlq hp32 hrt1 hrt2
      go_wp2
      clear hrem hshl hct1 hct2 hcr1 hcr2
      go_roundw
      case rel => exact ⟨x + 1, by rw [HS.out], by go_num, by omega, hg⟩
      case measure => simp [intOf]; omega
    ·have hxe : x = N := by omega
     have hend := G.mvN_end HB.out.2.2.2.1 HB.out.2.2.2.2 (by rw [← HB.out.1]; exact hbN) HE.out
     rw [← HM.out, ← HB.out.1, ← hxe] at hend
     have hnl : ¬ (x : Int) < N := by omega
     have HEN := Lib.hid hend; clear hend hxe
     generalize mvN P m t bk x = q at *
     go_wp2
     go_ret
     exact ⟨_, rfl, hg, congrArg (fun z : Nat => Value.int .i64 (z : Int)) HEN.out⟩
  ·have hbne : bk ≠ b0 := fun e => hz (by rw [e]; exact hb0e)
   have hz' : (((tb P t bk : Nat) : Int) != 0) = true := by
    have : ¬ ((tb P t bk : Nat) : Int) = 0 := by omega
    simpa using this
   generalize tb P t bk = y at *
   clear hz hrl
   go_wp2
   clear hcr hct hrt hz'
   go_roundw
   case rel => exact ⟨bk + 1, by go_num, by omega, hg⟩
   case measure => simp [intOf]; omega
end Go.Proofs.YtdklekdpdbjfiaaGreat

/- spec.l19Code, l19All, l19Own. -/
namespace Go.Proofs.YtdklekdpdbjfiaaGreat
open Go.RowKit
set_option maxRecDepth 100000 in
set_option maxHeartbeats 1000000 in
theorem l19Code_ok (P : Pr) (w : World) (pv : Value) (Sp : Nat → Prop) (hpv : PresV Sp w pv P) :
  Calls Tryz.prog 79 #[pv] w (Ret w fun _ v => v = .int .i64 (latC P)) := by
 obtain ⟨vo, vp, vc, rfl, h3⟩ := hpv
 have hp0 := PresP.box h3 31
 have hg0 : Ext w (w.alloc (.cells #[vo, vp, vc] 31)) := World.grownBy_alloc _ _ _
 obtain ⟨vo6, vp6, vc6, _, _, hc0, hc1, hc2, h36⟩ := hp0.at
 simp only [Nat.zero_add] at hc1 hc2
 have hbx : ∀ w', Ext (w.alloc (.cells #[vo, vp, vc] 31)) w' → w'.cell? ⟨w.heap.size, 0, none⟩ = some vo6 ∧ w'.cell? ⟨w.heap.size, 1, none⟩ = some vp6 ∧ w'.cell? ⟨w.heap.size, 2, none⟩ = some vc6 := fun w' h => ⟨h.cell hc0 (by simp), h.cell hc1 (by simp), h.cell hc2 (by simp)⟩
 have HB := Lib.hid hbx; clear hbx hp0
 have hgr := l08Group_ok P _ (.agg #[vo6, vp6, vc6]) Any ⟨_, _, _, rfl, h36⟩
 go_enter Tryz.func79, Tryz.ntmps79
 go_wp2_with fail
 clear hc0 hc1 hc2
 generalize hw0 : w.alloc (.cells #[vo, vp, vc] 31) = w0 at *
 clear hw0
 refine Calls.mono hgr ?_
 rintro e1 w1 ⟨v1, rfl, hg1, rfl⟩
 clear hgr
 cases hq : rconsB P with
 | false =>
  have e : latC P = 1 := by unfold latC; rw [hq]; rfl
  have HE := Lib.hid e; clear e hq
  go_wp2
  go_ret
  exact ⟨_, rfl, grown_trans hg0 hg1, by rw [HE.out]; rfl⟩
 | true =>
  have hP := (grp_of_r hq).v
  have e : latC P = if 32 < ordP P then 3 else 0 := by unfold latC; rw [hq, if_pos rfl]
  have HE := Lib.hid e; clear e hq
  obtain ⟨hc0, hc1, hc2⟩ := HB.out w1 hg1
  go_wp2_with fail
  clear hc0 hc1 hc2
  refine Calls.mono (l10Order_ok w1 _ P Any hP ⟨_, _, _, rfl, Pres3.ext h36 hg1⟩) ?_
  rintro e2 w2 ⟨v2, rfl, hg2, rfl⟩
  by_cases h32 : 32 < ordP P
  ·have e := HE.out
   rw [if_pos h32] at e
   have HE2 := Lib.hid e; clear e
   go_wp2
   go_ret
   exact ⟨_, rfl, grown_trans hg0 (grown_trans hg1 hg2), by rw [HE2.out]; rfl⟩
  ·have e := HE.out
   rw [if_neg h32] at e
   have HE2 := Lib.hid e; clear e
   go_wp2
   go_ret
   exact ⟨_, rfl, grown_trans hg0 (grown_trans hg1 hg2), by rw [HE2.out]; rfl⟩
end Go.Proofs.YtdklekdpdbjfiaaGreat

/- spec.l19Classes: the classes of conjugate subgroups. -/
namespace Go.Proofs.YtdklekdpdbjfiaaGreat
open Go.RowKit
theorem mem_msk {P : Pr} (G : Grp P) {S : List (List (List Int))} (hS : ∀ v ∈ S, SubB P v) {u : List (List Int)} (hu : SubB P u) : mskU P u ∈ S.map (mskU P) ↔ u ∈ S := by
 constructor
 ·intro h
  obtain ⟨v, hv, e⟩ := List.mem_map.1 h
  rw [← G.mskU_inj (hS v hv) hu e]; exact hv
 ·intro h; exact List.mem_map.2 ⟨u, h, rfl⟩
theorem natI_map_app (P : Pr) (S : List (List (List Int))) (u : List (List Int)) : natI ((S ++ [u]).map (mskU P)) = natI (S.map (mskU P)) ++ [((mskU P u : Nat) : Int)] := by
 rw [List.map_append]; exact natI_app _ _
set_option maxRecDepth 100000 in
set_option maxHeartbeats 8000000 in
theorem l19Classes_ok (P : Pr) (G : Grp P) (w : World) (pv : Value) (Sp : Nat → Prop) (h32 : ordP P ≤ 32) (hpv : PresV Sp w pv P) :
  Calls Tryz.prog 80 #[pv] w (Ret w fun w' v => ∃ fv zv, v = .tuple #[fv, zv] ∧ ∃ L, LatL P L ∧ Rows3 Any w' fv (clS P L L.length).firsts ∧ Own w.heap.size w' zv (natI (clS P L L.length).sizes)) := by
 have hP := G.v
 obtain ⟨vo, vp, vc, rfl, h3⟩ := hpv
 have hp0 := PresP.box h3 31
 have hg0 : Ext w (w.alloc (.cells #[vo, vp, vc] 31)) := World.grownBy_alloc _ _ _
 obtain ⟨vo6, vp6, vc6, _, _, hc0, hc1, hc2, h36⟩ := hp0.at
 simp only [Nat.zero_add] at hc1 hc2
 have hbx : ∀ w', Ext (w.alloc (.cells #[vo, vp, vc] 31)) w' → w'.cell? ⟨w.heap.size, 0, none⟩ = some vo6 ∧ w'.cell? ⟨w.heap.size, 1, none⟩ = some vp6 ∧ w'.cell? ⟨w.heap.size, 2, none⟩ = some vc6 := fun w' h => ⟨h.cell hc0 (by simp), h.cell hc1 (by simp), h.cell hc2 (by simp)⟩
 have HB := Lib.hid hbx; clear hbx hp0
 have hf := l19Full_ok P G _ (.agg #[vo6, vp6, vc6]) Any h32 ⟨_, _, _, rfl, h36⟩
 go_enter Tryz.func80, Tryz.ntmps80
 go_wp2_with fail
 clear hc0 hc1 hc2
 generalize hw0 : w.alloc (.cells #[vo, vp, vc] 31) = w0 at *
 clear hw0
 refine Calls.mono hf ?_
 rintro e1 w1 ⟨v1, rfl, hg1, sv, mv, rfl, L, hL, hR, hM⟩
 clear hf
 have hlen := G.lat_len h32 hL
 have hne := (G.lat_top hL).1
 have hsub : ∀ u ∈ L, SubB P u := fun u hu => (hL.2 u).1 hu
 obtain ⟨ms, hms⟩ : ∃ ms, ms = L.map (mskU P) := ⟨_, rfl⟩
 have hml : ms.length = L.length := by rw [hms, List.length_map]
 have hmg : ∀ k, k < L.length → gt ms k = mskU P (gt L k) := fun k hk => by rw [hms]; exact gt_map _ _ _ hk
 rw [← hms] at hM
 obtain ⟨sa, sc, hsv, _, _⟩ := Sl.shape hR
 subst hsv
 obtain ⟨am, cm, hmv, _, _⟩ := hM.shape
 rw [natI_len, hml] at hmv
 subst hmv
 have hM' : Sl IntEl (From w0.heap.size) w1 (.slice am (natI ms).length cm) (natI ms) := by rw [natI_len, hml]; exact hM
 have hg2 : Ext w1 (w1.alloc (.cells #[.slice sa L.length sc, .slice am L.length cm] 130)) := World.grownBy_alloc _ _ _
 have hb2 : ∀ w', Ext (w1.alloc (.cells #[.slice sa L.length sc, .slice am L.length cm] 130)) w' → w'.cell? ⟨w1.heap.size, 0, none⟩ = some (.slice sa L.length sc) ∧ w'.cell? ⟨w1.heap.size, 1, none⟩ = some (.slice am L.length cm) := fun w' h =>
  ⟨h.cell (by rw [World.cell?_alloc_at _ _ _ _ rfl]; rfl) (by simp), h.cell (by rw [World.cell?_alloc_at _ _ _ _ rfl]; rfl) (by simp)⟩
 have hg02 := grown_trans hg1 hg2
 have htab := l19Table_ok P G _ (.agg #[vo6, vp6, vc6]) Any ⟨_, _, _, rfl, Pres3.ext h36 hg02⟩
 obtain ⟨hc0, hc1, hc2⟩ := HB.out _ hg02
 have HL := Lib.hid (And.intro hL (And.intro hsub (And.intro hms (And.intro hmg (And.intro hb2 hM'))))); clear hL hsub hms hmg hb2 hM hM'
 have HR := Lib.hid hR; clear hR
 go_wp2_with fail
 clear hc0 hc1 hc2
 generalize hw2 : w1.alloc (.cells #[.slice sa L.length sc, .slice am L.length cm] 130) = w2 at *
 clear hw2
 refine Calls.mono htab ?_
 rintro e3 w3 ⟨v3, rfl, hg3, hT⟩
 clear htab
 obtain ⟨ta, tc, htv, _, _⟩ := Sl.shape hT
 subst htv
 have hpos := hP.ordP_pos
 obtain ⟨N, hN⟩ : ∃ N : Nat, ordP P = (N : Int) := ⟨(ordP P).toNat, by omega⟩
 have hNt : (ordP P).toNat = N := by omega
 have hN32 : N ≤ 32 := by omega
 have hg03 := grown_trans hg02 hg3
 have hs13 : w1.heap.size ≤ w3.heap.size := Nat.le_trans hg2.size hg3.size
 have hg4 : Ext w3 (w3.alloc (.cells #[] 23)) := World.grownBy_alloc _ _ _
 have hg5 : Ext (w3.alloc (.cells #[] 23)) ((w3.alloc (.cells #[] 23)).alloc (.cells #[] 2)) := World.grownBy_alloc _ _ _
 have hg6 : Ext ((w3.alloc (.cells #[] 23)).alloc (.cells #[] 2)) (((w3.alloc (.cells #[] 23)).alloc (.cells #[] 2)).alloc (.cells #[] 2)) := World.grownBy_alloc _ _ _
 have hF0 := ((Sh3.lit0 Any w3.heap.size w3 (Nat.le_refl _)).ext hg5).ext hg6
 have hZ0 := own_lit0 (B := w3.heap.size) (H := w3.heap.size + 1) (w := w3.alloc (.cells #[] 23)) (by simp) (by simp)
 have hS0 := own_lit0 (B := w3.heap.size) (H := w3.heap.size + 1 + 1) (w := (w3.alloc (.cells #[] 23)).alloc (.cells #[] 2)) (by simp; omega) (by simp)
 have hZ0' := hZ0.ext0 hg6
 have hg36 := grown_trans hg4 (grown_trans hg5 hg6)
 have HI := Lib.hid (And.intro hF0 (And.intro hZ0' (And.intro hS0 hg36))); clear hF0 hZ0 hZ0' hS0 hg36 hg4 hg5 hg6
 have HN := Lib.hid (And.intro hN hNt); clear hN hNt hpos
 go_wp2
 go_loopw [6, 7, 8, 9] (fun fv zv sv kv wr => ∃ (k : Nat) (v6 v7 v8 : Value), v6 = fv ∧ v7 = zv ∧ v8 = sv ∧ kv = .int .i64 k ∧ k ≤ L.length ∧ Ext w3 wr ∧ Sh3 Any w3.heap.size wr v6 (clS P L k).firsts ∧ Own w3.heap.size wr v7 (natI (clS P L k).sizes) ∧ Own w3.heap.size wr v8 (natI ((clS P L k).seen.map (mskU P))) ∧ Hid (∀ j, v7.ownBlock = some j → v8.ownBlock ≠ some j)) (fun _ _ _ kv _ => L.length - (intOf kv).toNat)
 case atStart => exact ⟨0, _, _, _, rfl, rfl, rfl, rfl, by omega, HI.out.2.2.2, HI.out.1, HI.out.2.1, HI.out.2.2.1, Lib.hid (fun j h1 h2 => by
  have e1 : w3.heap.size + 1 = j := by simpa [Value.ownBlock] using h1
  have e2 : w3.heap.size + 1 + 1 = j := by simpa [Value.ownBlock] using h2
  omega)⟩
 case round =>
  clear HI
  obtain ⟨k, v6, v7, v8, rfl, rfl, rfl, rfl, hk, hg, hF, hZ, hS, hD⟩ := hrel
  have hseen := G.clS_seen HL.out.2.1 k hk
  have hsl := G.seen_len h32 hseen
  obtain ⟨hfl, hzl⟩ := clS_len P L k
  have hyes := @clS_yes P L k
  have hno := @clS_no P L k
  obtain ⟨st, hst⟩ : ∃ st, st = clS P L k := ⟨_, rfl⟩
  rw [← hst] at hF hZ hS hseen hfl hzl hsl hyes hno
  have hSl : (natI (st.seen.map (mskU P))).length ≤ 20000 := by rw [natI_len, List.length_map]; omega
  have hZl : (natI st.sizes).length ≤ 20000 := by rw [natI_len]; omega
  have HCL := Lib.hid (And.intro hyes (And.intro hno hst)); clear hyes hno hst
  by_cases hlt : k < L.length
  ·have hlt' : (k : Int) < L.length := by omega
   have hg2r := grown_trans hg3 hg
   obtain ⟨hx0, hx1⟩ := HL.out.2.2.2.2.1 wr hg2r
   obtain ⟨bm, om, ham, _, _, hcm⟩ := Ints.at HL.out.2.2.2.2.2 k (by rw [natI_len, hml]; exact hlt)
   subst ham
   rw [natI_gt (by rw [hml]; exact hlt), HL.out.2.2.2.1 k hlt] at hcm
   have hcmr := (grown_trans hg2 hg2r).cell hcm (by simp)
   have huB := HL.out.2.1 _ (gt_mem hlt)
   have hSI := hS.ints (by omega)
   have hSh := hSI.shape
   obtain ⟨s8, c8, hv8, _, _⟩ := hSh
   have hho := l19Holds_ok (st.seen.map (mskU P)) (mskU P (gt L k)) wr _ _ hSI (by rw [List.length_map]; omega)
   have hmm := mem_msk G hseen.sub huB
   obtain ⟨r, hr⟩ : ∃ r, r = decide (mskU P (gt L k) ∈ st.seen.map (mskU P)) := ⟨_, rfl⟩
   rw [← hr] at hho
   have HK := Lib.hid (And.intro hr (And.intro hmm (And.intro huB hseen))); clear hr hmm huB hseen hSI
   subst hv8
   obtain ⟨m, hmk⟩ : ∃ m, m = mskU P (gt L k) := ⟨_, rfl⟩
   rw [← hmk] at hcmr hho
   have HST := Lib.hid hmk; clear hmk hcm
   have HU := Lib.hid (And.intro hF (And.intro hZ hS)); clear hF hZ hS
   have hD' := hD; clear hD
   go_wp2_with fail
   clear hx0 hx1
   refine Calls.mono hho ?_
   rintro e7 w7 ⟨v7', rfl, hg7, rfl⟩
   clear hho
   have hg37 := grown_trans hg hg7
   have hF7 := HU.out.1.ext hg7
   have hZ7 := HU.out.2.1.ext0 hg7
   have hS7 := HU.out.2.2.ext0 hg7
   have hcm7 := hg7.cell hcmr (by simp)
   clear hcmr
   cases r with
   | true =>
    have hin : gt L k ∈ st.seen := HK.out.2.1.1 (of_decide_eq_true HK.out.1.symm)
    have hnx := HCL.out.2.1 hin
    have HX := Lib.hid (And.intro hnx (And.intro hF7 (And.intro hZ7 hS7))); clear hin hnx hF7 hZ7 hS7
    go_wp2
    clear hcm7
    go_roundw
    case rel => exact ⟨k + 1, v6, v7, _, rfl, rfl, rfl, by go_num, by omega, hg37, by rw [HX.out.1]; exact HX.out.2.1, by rw [HX.out.1]; exact HX.out.2.2.1, by rw [HX.out.1]; exact HX.out.2.2.2, hD'⟩
    case measure => simp [intOf]; omega
   | false =>
    have hin : ¬ gt L k ∈ st.seen := fun h => by
     have := HK.out.1
     rw [decide_eq_true (HK.out.2.1.2 h)] at this; cases this
    have hnx := HCL.out.1 hin
    have HX := Lib.hid (And.intro hnx (And.intro hF7 (And.intro hZ7 hS7))); clear hin hnx hF7 hZ7 hS7
    clear hcm7
    go_wp2
    go_loopw [8, 10, 11] (fun sv zv tv wr => ∃ (t : Nat) (v8' : Value), v8' = sv ∧ zv = .int .i64 (((cnS P (gt L k) st.seen t).2 : Nat) : Int) ∧ tv = .int .i64 t ∧ t ≤ N ∧ Ext w3 wr ∧ Sh3 Any w3.heap.size wr v6 st.firsts ∧ Own w3.heap.size wr v7 (natI st.sizes) ∧ Own w3.heap.size wr v8' (natI ((cnS P (gt L k) st.seen t).1.map (mskU P))) ∧ Hid (∀ j, v7.ownBlock = some j → v8'.ownBlock ≠ some j)) (fun _ _ tv _ => N - (intOf tv).toNat)
    case atStart => exact ⟨0, _, rfl, rfl, by go_num, by omega, hg37, HX.out.2.1, HX.out.2.2.1, HX.out.2.2.2, hD'⟩
    case round =>
     clear hg hg7 hg37 hD'
     obtain ⟨t, v8', rfl, rfl, rfl, ht, hg, hF, hZ, hS, hD⟩ := hrel
     have hg2r := grown_trans hg3 hg
     have hg0r := grown_trans hg03 hg
     obtain ⟨hc0, hc1, hc2⟩ := HB.out wr hg0r
     have hor := l10Order_ok wr _ P Any hP ⟨_, _, _, rfl, Pres3.ext h36 hg0r⟩
     rw [HN.out.1] at hor
     go_wp2_with fail
     clear hc0 hc1 hc2
     refine Calls.mono hor ?_
     rintro e8 w8 ⟨v8o, rfl, hg8, rfl⟩
     clear hor
     have hg38 := grown_trans hg hg8
     have hF8 := hF.ext hg8
     have hZ8 := hZ.ext0 hg8
     have hS8 := hS.ext0 hg8
     have hcl := cnS_le P (gt L k) st.seen t
     have hsn := G.cnS_seen HK.out.2.2.1 HK.out.2.2.2 t (by rw [HN.out.2]; exact ht)
     have hsnl := G.seen_len h32 hsn
     have hyes := @cnS_yes P (gt L k) st.seen t
     have hno := @cnS_no P (gt L k) st.seen t
     obtain ⟨cn, hcn⟩ : ∃ cn, cn = cnS P (gt L k) st.seen t := ⟨_, rfl⟩
     rw [← hcn] at hS8 hcl hsn hsnl hyes hno
     clear hF hZ hS
     have HY := Lib.hid (And.intro hyes (And.intro hno hcn)); clear hyes hno
     by_cases htl : t < N
     ·have htl' : (t : Int) < N := by omega
      have hg28 := grown_trans hg3 hg38
      obtain ⟨hx0, hx1⟩ := HL.out.2.2.2.2.1 w8 hg28
      obtain ⟨bm2, om2, ham2, _, _, hcm⟩ := Ints.at HL.out.2.2.2.2.2 k (by rw [natI_len, hml]; exact hlt)
      cases ham2
      rw [natI_gt (by rw [hml]; exact hlt), HL.out.2.2.2.1 k hlt, ← HST.out] at hcm
      have hcm8 := (grown_trans hg2 hg28).cell hcm (by simp)
      have hmo := l19Moved_ok P G h32 (gt L k) HK.out.2.2.1 t (by rw [HN.out.2]; exact htl) w8 _ _ (Rows2.ext hT hg38)
      rw [← HST.out] at hmo
      have hcU := G.cjU_subB HK.out.2.2.1 (G.elAtV (P := P) (show t < (ordP P).toNat by rw [HN.out.2]; exact htl))
      obtain ⟨cj, hcj⟩ : ∃ cj, cj = cjU P (gt L k) (elAt P (t : Int)) := ⟨_, rfl⟩
      rw [← hcj] at hmo hcU
      have HCJ := Lib.hid (And.intro hcj (And.intro hcU (And.intro hsn hcl))); clear hcj hcU hsn hcm
      rw [← hcn]
      clear hcn
      go_wp2_with fail
      clear hx0 hx1 hcm8
      refine Calls.mono hmo ?_
      rintro e9 w9 ⟨v9, rfl, hg9, rfl⟩
      clear hmo
      have hg39 := grown_trans hg38 hg9
      have hF9 := hF8.ext hg9
      have hZ9 := hZ8.ext0 hg9
      have hS9 := hS8.ext0 hg9
      clear hF8 hZ8 hS8
      have hSl9 : (natI (cn.1.map (mskU P))).length ≤ 20000 := by rw [natI_len, List.length_map]; omega
      have hSI := hS9.ints (by omega)
      obtain ⟨s9, c9, hv9, _, _⟩ := hSI.shape
      have hho := l19Holds_ok (cn.1.map (mskU P)) (mskU P cj) w9 _ _ hSI (by rw [List.length_map]; omega)
      subst hv9
      have hmm := mem_msk G HCJ.out.2.2.1.sub HCJ.out.2.1
      obtain ⟨r, hr⟩ : ∃ r, r = decide (mskU P cj ∈ cn.1.map (mskU P)) := ⟨_, rfl⟩
      rw [← hr] at hho
      have happ := natI_map_app P cn.1 cj
      obtain ⟨mc, hmc⟩ : ∃ mc, mc = mskU P cj := ⟨_, rfl⟩
      rw [← hmc] at hho happ ⊢
      have HR9 := Lib.hid (And.intro hr (And.intro hmm (And.intro happ hmc))); clear hr hmm happ hmc hSI
      go_wp2_with fail
      refine Calls.mono hho ?_
      rintro eA wA ⟨vA, rfl, hgA, rfl⟩
      clear hho
      have hg3A := grown_trans hg39 hgA
      have hFA := hF9.ext hgA
      have hZA := hZ9.ext0 hgA
      have hSA := hS9.ext0 hgA
      clear hF9 hZ9 hS9
      cases r with
      | true =>
       have hin : cj ∈ cn.1 := HR9.out.2.1.1 (of_decide_eq_true HR9.out.1.symm)
       have hnx := HY.out.2.1 (by rw [← HCJ.out.1]; exact hin)
       have HX2 := Lib.hid (And.intro hnx (And.intro hFA (And.intro hZA hSA))); clear hin hnx hFA hZA hSA
       go_wp2
       go_roundw
       case rel => exact ⟨t + 1, _, rfl, by rw [HX2.out.1], by go_num, by omega, hg3A, HX2.out.2.1, HX2.out.2.2.1, by rw [HX2.out.1]; exact HX2.out.2.2.2, hD⟩
       case measure => simp [intOf]; omega
      | false =>
       have hin : ¬ cj ∈ cn.1 := fun h => by
        have := HR9.out.1
        rw [decide_eq_true (HR9.out.2.1.2 h)] at this; cases this
       have hnx := HY.out.1 (by rw [← HCJ.out.1]; exact hin)
       rw [← HCJ.out.1] at hnx
       have hcl2 : cn.2 ≤ t := HCJ.out.2.2.2
       have hw1 : IntKind.i64.wrap ((cn.2 : Nat) + 1 : Int) = ((cn.2 + 1 : Nat) : Int) := by rw [IntWalk.i64_in _ (by omega)]; omega
       have hn1 : (natI (cn.1.map (mskU P))).length ≤ 1000000 := by omega
       have HX2 := Lib.hid (And.intro hnx (And.intro hFA (And.intro hZA (And.intro hSA hn1)))); clear hin hnx hFA hZA hSA hn1
       go_wp2_with (first | (at_builtin; refine wp_app_intA rfl _ _ rfl w3.heap.size _ (natI (cn.1.map (mskU P))) (mc : Int) rfl wA HX2.out.2.2.2.1 rfl rfl HX2.out.2.2.2.2 hg3A.size ?_; intro vB wB hOB hgB hkB) | fail)
       have hblk := fun j hj => (HX2.out.2.2.2.1.lt j hj).1
       have hg3B : Ext w3 wB := grown_own hg3A hgB (fun b hb hlt => by have := hblk b hb; omega)
       have hne := sh3_ne HX2.out.2.1 HX2.out.2.2.2.1
       have hFB := HX2.out.2.1.kept hgB hne.1 (fun b hb => hblk b hb)
       have hZB := HX2.out.2.2.1.ext hgB (by
        rcases hz : v7.ownBlock with _ | b
        ·exact .inl rfl
        ·exact .inr (fun e => hD.out b hz e.symm))
       have hDB : ∀ j, v7.ownBlock = some j → vB.ownBlock ≠ some j := fun j h1 h2 => by
        rcases hkB j h2 with h | h
        ·exact hD.out j h1 h
        ·have := (HX2.out.2.2.1.lt j h1).2
         omega
       have HDB := Lib.hid hDB; clear hDB hne hblk
       go_wp2
       go_roundw
       case rel => exact ⟨t + 1, vB, rfl, by rw [HX2.out.1]; first | rfl | (simp only [hw1]), by go_num, by omega, hg3B, hFB, hZB, by rw [HX2.out.1, HR9.out.2.2.1]; exact hOB, HDB⟩
       case measure => simp [intOf]; omega
     ·have hte : t = N := by omega
      have hnx := HX.out.1
      rw [← HN.out.2] at hte
      rw [← hte, ← hcn] at hnx
      rw [← hcn]
      have hnl : ¬ (t : Int) < N := by omega
      have hcl2 : cn.2 ≤ 32 := by omega
      obtain ⟨bl, ol, a2, cap2, hal, _, hbl, hcl0, hru⟩ := Rows3.at HR.out k hlt
      subst hal
      have hg18 := grown_trans hg2 (grown_trans hg3 hg38)
      have hclr := hg18.cell hcl0 (by simp)
      obtain ⟨hx0, hx1⟩ := HL.out.2.2.2.2.1 w8 (grown_trans hg3 hg38)
      have huS : Rows2 (fun j => Any j ∧ j < w3.heap.size) w8 (.slice a2 (gt L k).length cap2) (gt L k) := Rows2.mono hru (fun j _ hlt => ⟨⟨trivial, Nat.lt_of_lt_of_le hlt hs13⟩, Nat.lt_of_lt_of_le hlt hg18.size, hg18.block j hlt (by simp)⟩)
      have hn1 : st.firsts.length ≤ 1000000 := by omega
      have hzn1 : (natI st.sizes).length ≤ 1000000 := by omega
      have happ := natI_app st.sizes cn.2
      have HX2 := Lib.hid (And.intro hnx (And.intro hF8 (And.intro hZ8 (And.intro hS8 (And.intro huS (And.intro hn1 (And.intro hzn1 happ))))))); clear hnx hF8 hZ8 hS8 huS hn1 hzn1 happ hcn hte hcl0 hru
      go_wp2_with (first
       | (at_builtin; refine wp_app_r3 rfl _ _ rfl Any w3.heap.size _ _ st.firsts (gt L k) rfl w8 HX2.out.2.1 HX2.out.2.2.2.2.1 rfl rfl HX2.out.2.2.2.2.2.1 hg38.size ?_; intro vB wB hOB hgB; have hblkB := fun j hj => (HX2.out.2.1.lt j hj).1; have hg3B : Ext w3 wB := grown_own hg38 hgB (fun b hb hlt => by have := hblkB b hb; omega); have hZB := HX2.out.2.2.1.ext hgB (sh3_ne HX2.out.2.1 HX2.out.2.2.1).2; have hSB := HX2.out.2.2.2.1.ext hgB (sh3_ne HX2.out.2.1 HX2.out.2.2.2.1).2; have HX3 := Lib.hid (And.intro hOB (And.intro hZB hSB)); clear hOB hZB hSB hblkB)
       | (at_builtin; refine wp_app_intA rfl _ _ rfl w3.heap.size _ (natI st.sizes) ((cn.2 : Nat) : Int) rfl wB HX3.out.2.1 rfl rfl HX2.out.2.2.2.2.2.2.1 hg3B.size ?_; intro vC wC hOC hgC hkC)
       | fail)
      clear hx0 hx1 hclr
      have hblk := fun j hj => (HX3.out.2.1.lt j hj).1
      have hg3C : Ext w3 wC := grown_own hg3B hgC (fun b hb hlt => by have := hblk b hb; omega)
      have hFC := HX3.out.1.kept hgC (sh3_ne HX3.out.1 HX3.out.2.1).1 (fun b hb => hblk b hb)
      have hSC := HX3.out.2.2.ext hgC (by
       rcases hz : v8'.ownBlock with _ | b
       ·exact .inl rfl
       ·exact .inr (fun e => hD.out b e.symm hz))
      have hDC : ∀ j, vC.ownBlock = some j → v8'.ownBlock ≠ some j := fun j h1 h2 => by
       rcases hkC j h1 with h | h
       ·exact hD.out j h h2
       ·have := (HX3.out.2.2.lt j h2).2
        omega
      have HDC := Lib.hid hDC; clear hDC hblk
      go_wp2
      go_roundw
      case rel => exact ⟨k + 1, _, vC, v8', rfl, rfl, rfl, by go_num, by omega, hg3C, by rw [HX2.out.1]; exact hFC, by rw [HX2.out.1, HX2.out.2.2.2.2.2.2.2]; exact hOC, by rw [HX2.out.1]; exact hSC, HDC⟩
      case measure => simp [intOf]; omega
  ·have hke : k = L.length := by omega
   have hnl : ¬ (k : Int) < L.length := by omega
   have hst := HCL.out.2.2
   rw [hke] at hst
   obtain ⟨hx0, hx1⟩ := HL.out.2.2.2.2.1 wr (grown_trans hg3 hg)
   have hrows := hF.rows (by omega)
   rw [hst] at hrows hZ
   obtain ⟨fa, fc, hfv⟩ := hF.shape
   subst hfv
   obtain ⟨za, zc, hzv, _, _⟩ := (hZ.ints (by rw [← hst]; omega)).shape
   subst hzv
   have HE := Lib.hid (And.intro hrows (And.intro hZ hke)); clear hrows hZ hke hst hF hS
   obtain ⟨nf, hnf⟩ : ∃ nf, nf = st.firsts.length := ⟨_, rfl⟩
   obtain ⟨nz, hnz⟩ : ∃ nz, nz = (natI (clS P L L.length).sizes).length := ⟨_, rfl⟩
   have HE2 : Hid (Rows3 (fun k => Any k ∨ w3.heap.size ≤ k) wr (.slice fa nf fc) (clS P L L.length).firsts ∧ Own w3.heap.size wr (.slice za nz zc) (natI (clS P L L.length).sizes)) := Lib.hid (by rw [hnf, hnz]; exact ⟨HE.out.1, HE.out.2.1⟩)
   rw [← hnf, ← hnz]
   clear hnf hnz HE
   go_wp2
   refine bodyPost_ret (v := .tuple #[.slice fa nf fc, .slice za nz zc]) (by simp [results, Tryz.results80, go_sem]) rfl ?_
   exact ⟨_, rfl, grown_trans hg0 (grown_trans hg03 hg), _, _, rfl, L, HL.out.1, Rows3.sub HE2.out.1 (fun _ _ _ => trivial), HE2.out.2.weak (by have := (grown_trans hg0 hg03).size; omega)⟩
end Go.Proofs.YtdklekdpdbjfiaaGreat

/- The library's sort on a slice that the call has built: any elements of one cell in blocks of their own, any comparison that lays blocks and draws but turns nothing. -/
namespace Go.Proofs.YtdklekdpdbjfiaaGreat
open Go.Proofs Go.Shelf Go.RowKit Go.Lib Go.Sort
theorem ext_grow {W w' : World} (h : Ext W w') (hd : W.drawn ≤ w'.drawn) : ∃ q os', w' = grow (W.drewN q) os' := by
 refine ⟨w'.drawn - W.drawn, w'.heap.extract W.heap.size w'.heap.size, ?_⟩
 obtain ⟨h1, h2, h3, h4, h5⟩ := h
 have hh : W.heap ++ w'.heap.extract W.heap.size w'.heap.size = w'.heap := by
  apply Array.ext
  ·simp; omega
  ·intro i hi1 hi2
   by_cases hlt : i < W.heap.size
   ·rw [Array.getElem_append_left hlt]
    have := h5 i hlt (by simp)
    rw [Array.getElem?_eq_getElem hi2, Array.getElem?_eq_getElem hlt] at this
    exact (Option.some.inj this).symm
   ·rw [Array.getElem_append_right (by omega)]
    simp only [Array.getElem_extract]
    congr 1; omega
 cases w' with
 | mk heap tape drawn os output =>
  cases W with
  | mk heap2 tape2 drawn2 os2 output2 =>
   simp only at h1 h2 h3 hh hd
   subst h1; subst h2; subst h3
   unfold grow World.drewN
   simp only [World.mk.injEq]
   exact ⟨hh.symm, trivial, by omega, trivial, trivial⟩
section
variable {α : Type} [Inhabited α]
theorem swo_at {cf : α → α → Int} (h : SWO (ltOf cf)) (L : List α) : SWO (ltOf (fun i j : Nat => cf (gt L i) (gt L j))) where
 irrefl x := h.irrefl (gt L x)
 trans x y z := h.trans (gt L x) (gt L y) (gt L z)
 ntrans x y z := h.ntrans (gt L x) (gt L y) (gt L z)
set_option maxHeartbeats 1000000 in
theorem sortG {P : Program} {ρ : Ren} (Lay : SlLaysF.n6 P ρ) {El : (Nat → Prop) → World → Value → α → Prop} (hEl : RdOk El) (E B : Nat) (cf : α → α → Int) (hS : SWO (ltOf cf)) (g : Nat) (cb : Array Value)
  (eg : ∀ args w, (callFunc g args).run P w = .ok (.enter g args) w) (w : World) (v : Value) (L : List α) (A : Nat → Prop) (hL : SlOA El E B A w v L) (hne : 0 < L.length) (hlen : L.length ≤ 1000000)
  (hnil : ∀ W, El (fun _ => True) W (.slice none 0 0) default)
  (hcmp : ∀ (W : World) (u1 u2 : Value) (x y : α), w.grownBy W v.ownBlock → (x ∈ L ∨ x = default) → (y ∈ L ∨ y = default) → El (fun _ => True) W u1 x → El (fun _ => True) W u2 y →
   Calls P g (#[u1, u2] ++ cb) W fun e w' => e = .returned (.int .i64 (cf x y)) ∧ Ext W w' ∧ W.drawn ≤ w'.drawn) :
  Calls P (ρ.f 6) #[v, .func (.func g) #[] cb] w fun e w' => e = .returned (.tuple #[]) ∧ ∃ L', SlOA El E B A w' v L' ∧ L'.Perm L ∧ L'.Pairwise (fun x y => 0 ≤ cf y x) ∧ w.grownBy w' v.ownBlock := by
 obtain ⟨vs, G, hvl, hO, hG, hd, hE, hav, hav2⟩ := hL
 obtain ⟨_, ⟨rfl, h0⟩ | ⟨gb, cap, cur, rfl, hBg, hb, hnc, hcm, hsz, hx⟩⟩ := hO
 ·omega
 have hgs : gb < w.heap.size := (Array.getElem?_eq_some_iff.1 hb).1
 have hone : OneCell (encAt vs) := encAt_one fun i hi => hEl.one (hE i (by omega))
 have hmap : (List.range L.length).map (encAt vs) = vs := by
  apply List.ext_getElem (by simp [hvl])
  intro j h1 h2
  simp [encAt, gt, h2]
 have hH : Go.Sort.Holds (encAt vs) w gb 0 (List.range L.length).toArray := holds_of_blockV hb (by rw [hmap, List.length_range, ← hvl]; simpa using hx)
 have hlays : CmpLays1 P g cb (encAt vs) (fun i j : Nat => cf (gt L i) (gt L j)) gb 0 (List.range L.length).toArray.size w := by
  intro m os dk _ x y
  have hgr : w.grownBy (sortWorld (encAt vs) w gb 0 m dk os) (some gb) := grownBy_sortedV dk
  have hread : ∀ k, El (fun _ => True) (sortWorld (encAt vs) w gb 0 m dk os) (encAt vs k) (gt L k) ∧ (gt L k ∈ L ∨ gt L k = default) := by
   intro k
   by_cases hk : k < vs.length
   ·have he := hE k (by omega)
    unfold encAt
    rw [if_pos hk]
    exact ⟨hEl.mono he (fun b hb2 hlt => ⟨trivial, Nat.lt_of_lt_of_le hlt hgr.size, hgr.block b hlt (fun e => (hG k b (by omega) hb2).2.1 (by cases e; rfl))⟩), .inl (gt_mem (by omega))⟩
   ·have h1 : gt L k = default := by simp [gt, show ¬ k < L.length by omega]
    unfold encAt
    rw [if_neg hk, h1]
    exact ⟨hnil _, .inr rfl⟩
  refine (hcmp _ _ _ _ _ hgr (hread x).2 (hread y).2 (hread x).1 (hread y).1).mono ?_
  rintro e w' ⟨rfl, he, hdr⟩
  exact ⟨rfl, ext_grow he hdr⟩
 have hcon := Any.slices_SortFunc Lay (encAt vs) hone (fun i j : Nat => cf (gt L i) (gt L j)) (swo_at hS L) g cb gb 0 cap (List.range L.length).toArray w eg hlays hH hgs (by simp; omega)
 have hsz2 : (List.range L.length).toArray.size = vs.length := by simp [hvl]
 rw [hsz2] at hcon
 refine hcon.mono ?_
 rintro e w' ⟨he, d', n, os, ⟨hs1, _, hperm⟩, hsorted, rfl⟩
 have hts : d'.toList.length = L.length := by simpa [hvl] using hs1
 have hP : d'.toList.Perm (List.range L.length) := by
  have h1 : d'.extract 0 vs.length = d' := by
   apply Array.ext'
   rw [hvl, ← hts]; simp
  have h2 : (List.range L.length).toArray.extract 0 vs.length = (List.range L.length).toArray := by
   apply Array.ext'
   rw [hvl]; simp
  rw [h1, h2] at hperm
  simpa using hperm
 have hin : ∀ i, i < L.length → gt d'.toList i < L.length := fun i hi => by
  have := hP.subset (gt_mem (l := d'.toList) (i := i) (by omega))
  simpa using this
 have hnd : d'.toList.Nodup := hP.symm.nodup List.nodup_range
 have hmapL : (List.range L.length).map (gt L) = L := by
  apply List.ext_getElem (by simp)
  intro j h1 h2
  simp [gt, h2]
 have hgr : w.grownBy (sortWorld (encAt vs) w gb 0 n d' os) (some gb) := grownBy_sortedV d'
 have hgv : ∀ i, i < L.length → gt (d'.toList.map (encAt vs)) i = gt vs (gt d'.toList i) := fun i hi => by
  have h1 : gt (d'.toList.map (encAt vs)) i = encAt vs (gt d'.toList i) := gt_map _ _ _ (by omega)
  rw [h1]; unfold encAt; rw [if_pos (by rw [hvl]; exact hin i hi)]
 have hgL : ∀ i, i < L.length → gt (d'.toList.map (gt L)) i = gt L (gt d'.toList i) := fun i hi => gt_map _ _ _ (by omega)
 refine ⟨he, d'.toList.map (gt L), ⟨d'.toList.map (encAt vs), fun i k => G (gt d'.toList i) k, by simp, ?_, ?_, ?_, ?_, fun i k hi hk => hav (gt d'.toList i) k (hin i (by simp only [List.length_map] at hi; omega)) hk, hav2⟩, ?_, ?_, hgr⟩
 ·have := ownsRow_sortedV (enc := encAt vs) (n := n) (os := os) (ss := List.range L.length) (ts := d'.toList) (by rw [hts, List.length_range]) hBg hb (by rw [List.length_range, ← hvl]; exact hnc) hcm hsz
  rw [List.length_range, ← hvl] at this
  unfold OwnV
  rw [show (d'.toList.map (encAt vs)).length = vs.length by rw [List.length_map, hts, hvl]]
  simpa using this
 ·intro i k hi hk
  obtain ⟨a1, a2, a3⟩ := hG _ k (hin i (by simp only [List.length_map] at hi; omega)) hk
  exact ⟨a1, a2, Nat.lt_of_lt_of_le a3 hgr.size⟩
 ·intro i j k hi hj hk hk'
  simp only [List.length_map] at hi hj
  exact gt_inj hnd (by omega) (by omega) (hd _ _ k (hin i (by omega)) (hin j (by omega)) hk hk')
 ·intro i hi
  simp only [List.length_map] at hi
  rw [hgv i (by omega), hgL i (by omega)]
  have he := hE _ (hin i (by omega))
  exact hEl.mono he (fun b hb2 hlt => ⟨hb2, Nat.lt_of_lt_of_le hlt hgr.size, hgr.block b hlt (fun e => (hG _ b (hin i (by omega)) hb2).2.1 (by cases e; rfl))⟩)
 ·have := hP.map (gt L)
  rwa [hmapL] at this
 ·refine List.pairwise_iff_getElem.2 ?_
  intro i j hi hj hij
  have hi' : i < d'.size := by simpa using hi
  have hj' : j < d'.size := by simpa using hj
  have h1 := hsorted i j (Nat.zero_le _) hij (by rw [hs1, hsz2] at hj'; exact hj')
  rw [getElem!_pos d' i hi', getElem!_pos d' j hj'] at h1
  unfold ltOf at h1
  rw [decide_eq_false_iff_not] at h1
  simp only [List.getElem_map, Array.getElem_toList]
  have h2 : ¬ cf (gt L d'[j]) (gt L d'[i]) < 0 := h1
  omega
end
end Go.Proofs.YtdklekdpdbjfiaaGreat

/- The library's sort at [][][]int64 with the lattice's comparison. -/
namespace Go.Proofs.YtdklekdpdbjfiaaGreat
open Go.Proofs Go.Shelf Go.RowKit Go.Lib Go.Sort
def Tryz.sortRows3_ren : Go.Shelf.Ren := ⟨fun | 6 => 138 | 15 => 200 | 14 => 199 | 28 => 240 | 29 => 241 | 20 => 232 | 21 => 233 | 22 => 234 | 23 => 235 | 24 => 236 | 25 => 237 | 26 => 238 | 27 => 239 | 46 => 251 | 47 => 252 | 48 => 253 | 49 => 254 | 50 => 255 | 57 => 265 | n => n, fun | 22 => 24 | 24 => 23 | 25 => 128 | 3 => 3 | 39 => 168 | 0 => 0 | 53 => 198 | 55 => 95 | 4 => 4 | 46 => 191 | 45 => 190 | 50 => 195 | 5 => 5 | 9 => 9 | 66 => 204 | 70 => 208 | 76 => 216 | 77 => 217 | n => n, fun | n => n⟩
theorem Tryz.sortRows3 : Go.Proofs.SlLaysF.n6 Tryz.prog Tryz.sortRows3_ren := {
  mixed := by kernel_rfl
  f6 := ⟨Tryz.f138.name, by decide, Tryz.func138.trans (congrArg some (by kernel_rfl))⟩
  f14 := ⟨Tryz.f199.name, by decide, Tryz.func199.trans (congrArg some (by kernel_rfl))⟩
  f15 := Tryz.func200.trans (congrArg some (by kernel_rfl))
  f20 := ⟨Tryz.f232.name, by decide, Tryz.func232.trans (congrArg some (by kernel_rfl))⟩
  f21 := ⟨Tryz.f233.name, by decide, Tryz.func233.trans (congrArg some (by kernel_rfl))⟩
  f22 := ⟨Tryz.f234.name, by decide, Tryz.func234.trans (congrArg some (by kernel_rfl))⟩
  f23 := ⟨Tryz.f235.name, by decide, Tryz.func235.trans (congrArg some (by kernel_rfl))⟩
  f24 := ⟨Tryz.f236.name, by decide, Tryz.func236.trans (congrArg some (by kernel_rfl))⟩
  f25 := ⟨Tryz.f237.name, by decide, Tryz.func237.trans (congrArg some (by kernel_rfl))⟩
  f26 := ⟨Tryz.f238.name, by decide, Tryz.func238.trans (congrArg some (by kernel_rfl))⟩
  f27 := ⟨Tryz.f239.name, by decide, Tryz.func239.trans (congrArg some (by kernel_rfl))⟩
  f28 := Tryz.func240.trans (congrArg some (by kernel_rfl))
  f29 := Tryz.func241.trans (congrArg some (by kernel_rfl))
  f46 := ⟨Tryz.f251.name, by decide, Tryz.func251.trans (congrArg some (by kernel_rfl))⟩
  f47 := Tryz.func252.trans (congrArg some (by kernel_rfl))
  f48 := Tryz.func253.trans (congrArg some (by kernel_rfl))
  f49 := ⟨Tryz.f254.name, by decide, Tryz.func254.trans (congrArg some (by kernel_rfl))⟩
  f50 := ⟨Tryz.f255.name, by decide, Tryz.func255.trans (congrArg some (by kernel_rfl))⟩
  f57 := ⟨Tryz.f265.name, by decide, Tryz.func265.trans (congrArg some (by kernel_rfl))⟩
  t0 := Tryz.underlying0
  a0 := Tryz.isAgg0
  z0 := Tryz.sizeOf0
  v0 := Tryz.zeroValue0
  t3 := Tryz.underlying3
  a3 := Tryz.isAgg3
  z3 := Tryz.sizeOf3
  v3 := Tryz.zeroValue3
  t4 := Tryz.underlying4
  a4 := Tryz.isAgg4
  z4 := Tryz.sizeOf4
  v4 := Tryz.zeroValue4
  t5 := Tryz.underlying5
  a5 := Tryz.isAgg5
  z5 := Tryz.sizeOf5
  v5 := Tryz.zeroValue5
  t9 := Tryz.underlying9
  a9 := Tryz.isAgg9
  z9 := Tryz.sizeOf9
  v9 := Tryz.zeroValue9
  t22 := Tryz.underlying24
  a22 := Tryz.isAgg24
  z22 := Tryz.sizeOf24
  v22 := Tryz.zeroValue24
  a24 := Tryz.isAgg23
  z24 := Tryz.sizeOf23
  t25 := Tryz.underlying128
  a25 := Tryz.isAgg128
  z25 := Tryz.sizeOf128
  v25 := Tryz.zeroValue128
  t39 := Tryz.underlying168
  a39 := Tryz.isAgg168
  z39 := Tryz.sizeOf168
  v39 := Tryz.zeroValue168
  t45 := Tryz.underlying190
  a45 := Tryz.isAgg190
  z45 := Tryz.sizeOf190
  v45 := Tryz.zeroValue190
  t46 := Tryz.underlying191
  a46 := Tryz.isAgg191
  z46 := Tryz.sizeOf191
  v46 := Tryz.zeroValue191
  t50 := Tryz.underlying195
  a50 := Tryz.isAgg195
  z50 := Tryz.sizeOf195
  v50 := Tryz.zeroValue195
  t53 := Tryz.underlying198
  a53 := Tryz.isAgg198
  z53 := Tryz.sizeOf198
  v53 := Tryz.zeroValue198
  t55 := Tryz.underlying95
  a55 := Tryz.isAgg95
  z55 := Tryz.sizeOf95
  v55 := Tryz.zeroValue95
  t66 := Tryz.underlying204
  a66 := Tryz.isAgg204
  z66 := Tryz.sizeOf204
  v66 := Tryz.zeroValue204
  t70 := Tryz.underlying208
  a70 := Tryz.isAgg208
  z70 := Tryz.sizeOf208
  v70 := Tryz.zeroValue208
  t76 := Tryz.underlying216
  a76 := Tryz.isAgg216
  z76 := Tryz.sizeOf216
  v76 := Tryz.zeroValue216
  t77 := Tryz.underlying217
  a77 := Tryz.isAgg217
  z77 := Tryz.sizeOf217
  v77 := Tryz.zeroValue217 }
theorem seqOk_nil (P : Pr) : SeqOk P [] := ⟨by simp, by simp⟩
theorem sortSubs_ok (P : Pr) (hP : Valid P) (w : World) (v : Value) (L : List (List (List Int))) (A : Nat → Prop) (B bx pb po : Nat) (hL : SlOA (fun F w u (x : List (List Int)) => RowsD F w u x) 23 B A w v L) (hne : 0 < L.length) (hlen : L.length ≤ 1000000)
  (hU : ∀ u ∈ L, SeqOk P u ∧ u.length ≤ 100) (hc : w.cell? ⟨bx, 0, none⟩ = some (.pointer (some ⟨pb, po, none⟩))) (hbx : v.ownBlock ≠ some bx) (hp : PresP (fun k => v.ownBlock ≠ some k) w (.pointer (some ⟨pb, po, none⟩)) P) :
  Calls Tryz.prog 138 #[v, .func (.func 148) #[] #[.pointer (some ⟨bx, 0, none⟩)]] w fun e w' => e = .returned (.tuple #[]) ∧
   ∃ L', SlOA (fun F w u (x : List (List Int)) => RowsD F w u x) 23 B A w' v L' ∧ L'.Perm L ∧ L'.Pairwise (fun x y => 0 ≤ cmpS P y x) ∧ w.grownBy w' v.ownBlock := by
 have eg : ∀ args w, (callFunc 148 args).run Tryz.prog w = .ok (.enter 148 args) w := enters_of Tryz.func148 (by kernel_rfl) rfl
 have h := sortG Tryz.sortRows3 rdRows 23 B (cmpS P) (swo_cmpS P) 148 #[.pointer (some ⟨bx, 0, none⟩)] eg w v L A hL hne hlen (fun W => (SlO.nil OwnIn 22 0 W).toD (by simp) |> fun h => rdRows.mono h (fun k hk hlt => ⟨trivial, hlt, rfl⟩)) (by
  intro W u1 u2 x y hg hx hy h1 h2
  have hp' : PresP Any W (.pointer (some ⟨pb, po, none⟩)) P := PresP.mono hp (frame_of hg (fun k hk _ => ⟨trivial, hk⟩))
  have hc' : W.cell? ⟨bx, 0, none⟩ = some (.pointer (some ⟨pb, po, none⟩)) := hg.cell hc (fun e => hbx e.symm)
  have hq : ∀ z, (z ∈ L ∨ z = default) → SeqOk P z ∧ z.length ≤ 100 := fun z hz => by
   rcases hz with hz | hz
   ·exact hU z hz
   ·rw [hz]; exact ⟨seqOk_nil P, by decide⟩
  refine (latCmp_ok P hP W bx pb po u1 u2 x y Any _ _ hc' hp' (RowsD.rows h1) (RowsD.rows h2) (hq x hx).1 (hq y hy).1 (hq x hx).2 (hq y hy).2).mono ?_
  rintro e w' ⟨v1, rfl, hg1, rfl, hd⟩
  exact ⟨rfl, hg1, hd⟩)
 exact h
end Go.Proofs.YtdklekdpdbjfiaaGreat

/- impl.latticeOf. -/
namespace Go.Proofs.YtdklekdpdbjfiaaGreat
open Go.RowKit
set_option linter.unusedSimpArgs false in
set_option maxRecDepth 100000 in
set_option maxHeartbeats 8000000 in
theorem latticeOf_ok (P : Pr) (w : World) (p : Value) (Sp : Nat → Prop) (hp : PresP Sp w p P) :
  Calls Tryz.prog 81 #[p] w (Ret w fun w' v => ∃ lp, v = .tuple #[.pointer lp, .int .i64 (latC P)] ∧ (latC P ≠ 0 → lp = none) ∧
   (latC P = 0 → ∃ lb L, lp = some ⟨lb, 0, none⟩ ∧ LatL P L ∧ LatAt w.heap.size P w' lb p L)) := by
 obtain ⟨pb, po, rfl⟩ := hp.shape
 obtain ⟨vo, vp, vc, _, _, hc0, hc1, hc2, h3⟩ := hp.at
 obtain ⟨ao, capo, rfl, _, _⟩ := h3.o.shape
 obtain ⟨ap, capp, rfl, _, _⟩ := Sl.shape h3.p
 obtain ⟨ac, capc, rfl, _, _⟩ := Sl.shape h3.c
 have hg0 : Ext w (w.alloc (.cells #[.pointer (some ⟨pb, po, none⟩)] 67)) := World.grownBy_alloc _ _ _
 have hbx : ∀ w', Ext (w.alloc (.cells #[.pointer (some ⟨pb, po, none⟩)] 67)) w' → w'.cell? ⟨w.heap.size, 0, none⟩ = some (.pointer (some ⟨pb, po, none⟩)) := fun w' h => h.cell (by rw [World.cell?_alloc_at _ _ _ _ rfl]; rfl) (by simp)
 have hs0 : (w.alloc (.cells #[.pointer (some ⟨pb, po, none⟩)] 67)).heap.size = w.heap.size + 1 := by simp
 have hcon := isConsistent_ok P _ (.agg #[.slice ao P.orders.length capo, .slice ap P.powers.length capp, .slice ac P.conj.length capc]) Sp ⟨_, _, _, rfl, h3.ext hg0⟩
 rw [icons_eq] at hcon
 have hp0 := hp.ext hg0
 have HB := Lib.hid (And.intro hbx (And.intro hs0 hp0)); clear hbx hs0 hp0
 go_enter Tryz.func81, Tryz.ntmps81
 go_wp2_with fail
 clear hc0 hc1 hc2 h3
 generalize hw0 : w.alloc (.cells #[.pointer (some ⟨pb, po, none⟩)] 67) = w0 at *
 clear hw0
 refine Calls.mono hcon ?_
 rintro e1 w1 ⟨v, rfl, hg1, rfl⟩
 clear hcon
 have hgw1 := grown_trans hg0 hg1
 cases hq : rconsB P with
 | false =>
  have HQ := Lib.hid hq; clear hq
  go_wp2
  have e : latC P = 1 := by unfold latC; rw [HQ.out]; rfl
  refine bodyPost_ret (v := .tuple #[.pointer none, .int .i64 1]) (by simp [results, Tryz.results81, go_sem]) rfl ?_
  exact ⟨_, rfl, hgw1, none, by rw [e], fun _ => rfl, fun h => by rw [e] at h; cases h⟩
 | true =>
  have G := grp_of_r hq
  have hP := G.v
  have hn6 := hP.n6
  have h729 : ordP P ≤ 729 := hP.le729
  have hpos := hP.ordP_pos
  have HQ := Lib.hid hq; clear hq
  have hb1 := HB.out.1 w1 hg1
  go_wp2_with fail
  clear hb1
  refine Calls.mono (orderOf_ok w1 _ P Sp hP (HB.out.2.2.ext hg1)) ?_
  rintro e2 w2 ⟨rfl, rfl⟩
  by_cases h32 : 32 < ordP P
  ·have e : latC P = 3 := by unfold latC; rw [HQ.out, if_pos rfl, if_pos h32]
   have HE := Lib.hid e; clear e
   go_wp2
   refine bodyPost_ret (v := .tuple #[.pointer none, .int .i64 3]) (by simp [results, Tryz.results81, go_sem]) rfl ?_
   exact ⟨_, rfl, hgw1, none, by rw [HE.out], fun _ => rfl, fun h => by rw [HE.out] at h; cases h⟩
  ·have hle : ordP P ≤ 32 := by omega
   have e : latC P = 0 := by unfold latC; rw [HQ.out, if_pos rfl, if_neg h32]
   have HC0 := Lib.hid e
   clear e
   have hb1 := HB.out.1 w1 hg1
   go_wp2_with fail
   clear hb1 h32
   refine Calls.mono (multiplicationTable_ok P G w1 _ Sp (HB.out.2.2.ext hg1)) ?_
   rintro e3 w2 ⟨tv, rfl, hg2, hT⟩
   obtain ⟨at', capt, rfl, _, _⟩ := Sl.shape hT
   obtain ⟨N, hN⟩ : ∃ N, N = (ordP P).toNat := ⟨_, rfl⟩
   have hN32 : N ≤ 32 := by omega
   have hlen : (tabL P).length = N := by rw [tabL_len, hN]
   have htN : Rows2 Any w2 (.slice at' N capt) (tabL P) := by rw [← hlen]; exact Rows2.sub hT (fun _ _ _ => trivial)
   rw [hlen]
   have hgw2 := grown_trans hgw1 hg2
   have hg02 := grown_trans hg1 hg2
   -- the list of masks and the map
   have hO0 : OwnV w2.heap.size 95 (w2.alloc (.cells #[.int .u64 1] 95)) (.slice (some ⟨w2.heap.size, 0, none⟩) 1 1) ([1].map uV) := World.ownsRow_lit w2 #[.int .u64 1] 1 (Nat.le_refl _) (by decide) rfl
   have hga : Ext w2 (w2.alloc (.cells #[.int .u64 1] 95)) := World.grownBy_alloc _ _ _
   have hsz : (w2.alloc (.cells #[.int .u64 1] 95)).heap.size = w2.heap.size + 1 := by simp
   have hMm := MapAt.made mapUB (w2.alloc (.cells #[.int .u64 1] 95))
   have hgb : Ext (w2.alloc (.cells #[.int .u64 1] 95)) ((w2.alloc (.cells #[.int .u64 1] 95)).alloc (.map #[] 0)) := World.grownBy_alloc _ _ _
   rw [hsz] at hMm
   obtain ⟨w3, hrun, hM3, hg3⟩ := hMm.update (1 : Nat) (show (1 : Nat) < 2 ^ 64 by decide) true trivial (by decide)
   have hO3 := (hO0.kept hgb (.inr (by simp [Value.ownBlock]))).kept hg3 (.inr (by simp [Value.ownBlock]))
   have hgw3 : Ext w2 w3 := grown_own (grown_trans hga hgb) hg3 (fun j hj hlt => by cases hj; omega)
   have hrun2 : (Instr.mapUpdate 135 (.map (some (w2.heap.size + 1))) (.int .u64 1) (.bool true)).run Tryz.prog ((w2.alloc (.cells #[.int .u64 1] 95)).alloc (.map #[] 0)) = .ok () w3 := hrun
   have hmk := makeUB (w2.alloc (.cells #[.int .u64 1] 95))
   rw [hsz] at hmk
   have hF0 : Fnd P [1] 0 0 := by have := G.fnd_start; rw [G.msk_one] at this; exact this
   have hM3' : MapAt mapUB w3 (w2.heap.size + 1) (fun a => decide (a ∈ [1])) 1 := hM3.congr (fun a => by by_cases h : a = 1 <;> simp [h, mapUB])
   have HF := Lib.hid (And.intro hF0 (And.intro hO3 (And.intro hM3' (And.intro hN hlen)))); clear hF0 hO3 hM3 hM3' hMm hO0 hT hrun hg3 hgb hga hsz
   clear hlen hN
   go_wp2
   --<A
   clear hmk hrun2
   go_loopw [5, 7] (fun mv iv wr => ∃ (M : List Nat) (i : Nat) (v5 : Value), v5 = mv ∧ iv = .int .i64 i ∧ i ≤ M.length ∧ Ext w2 wr ∧ OwnV w2.heap.size 95 wr v5 (M.map uV) ∧ MapAt mapUB wr (w2.heap.size + 1) (fun a => decide (a ∈ M)) M.length ∧ Hid (Fnd P M i 0)) (fun _ iv _ => 17409 - (intOf iv).toNat)
   case atStart => exact ⟨[1], 0, _, rfl, rfl, by simp, hgw3, HF.out.2.1, HF.out.2.2.1, Lib.hid HF.out.1⟩
   case round =>
    obtain ⟨M, i, v5, rfl, rfl, hi, hg, hO, hMp, hF⟩ := hrel
    have hlM := G.fnd_len hle hF.out
    have hMne : 0 < M.length := by
     have := hF.out.one
     cases M with
     | nil => cases this
     | cons => simp
    obtain ⟨g, cap, rfl⟩ := uV_shape hO hMne
    by_cases hlt : i < M.length
    ·have hlt' : (i : Int) < M.length := by omega
     obtain ⟨H, SH, hmH⟩ := hF.out.sub _ (gt_mem hlt)
     obtain ⟨m, hm⟩ : ∃ m, m = gt M i := ⟨_, rfl⟩
     rw [← hm] at hmH
     have hm64 : m < 2 ^ 64 := by rw [hmH]; exact mask64 hle
     have HH := Lib.hid (And.intro SH hmH); clear SH hmH
     go_wp2
     go_loopw [5, 40] (fun mv xv wr => ∃ (M' : List Nat) (x : Nat) (v5 : Value), v5 = mv ∧ xv = .int .i64 x ∧ x ≤ N ∧ i < M'.length ∧ Ext w2 wr ∧ OwnV w2.heap.size 95 wr v5 (M'.map uV) ∧ MapAt mapUB wr (w2.heap.size + 1) (fun a => decide (a ∈ M')) M'.length ∧ Hid (Fnd P M' i x) ∧ Hid (gt M' i = m)) (fun _ xv _ => N - (intOf xv).toNat)
     case atStart => exact ⟨M, 0, _, rfl, rfl, by omega, hlt, hg, hO, hMp, hF, Lib.hid hm.symm⟩
     case round =>
      clear hg hO hMp hF hlM hMne hi hlt hlt' hm
      obtain ⟨M, x, v5, rfl, rfl, hx, hlt, hg, hO, hMp, hF, hm⟩ := hrel
      have hlt' : (i : Int) < M.length := by omega
      have hlM := G.fnd_len hle hF.out
      obtain ⟨g, cap, rfl⟩ := uV_shape hO (by omega)
      have hcm := uV_cell hO hlt
      rw [hm.out] at hcm
      by_cases hxN : x < N
      ·have hxN' : (x : Int) < N := by omega
       have hxP : x < (ordP P).toNat := by have := HF.out.2.2.2.1; omega
       have hand := bit_and m x hm64
       cases hb : m.testBit x with
       | true =>
        rw [hb] at hand
        have hand : bits .and .u64 ((m : Int) / 2 ^ x) 1 = 1 := hand
        have hF2 := Lib.hid (fnd_bit hF.out hxP (by rw [hm.out]; exact hb))
        clear hF hb
        go_wp2
        clear hand hcm
        go_roundw
        case rel => exact ⟨M, x + 1, _, rfl, by go_num, by omega, hlt, hg, hO, hMp, hF2, hm⟩
        case measure => simp [intOf]; omega
       | false =>
        rw [hb] at hand
        have hand : bits .and .u64 ((m : Int) / 2 ^ x) 1 = 0 := hand
        have hext := extendMask_ok P G wr (.slice at' N capt) Any H HH.out.1 x hxP hle (Rows2.ext htN hg)
        rw [← HH.out.2] at hext
        obtain ⟨m2, hm2⟩ : ∃ m2, m2 = msk P (extP P H (elAt P x)) := ⟨_, rfl⟩
        rw [← hm2] at hext
        have hm264 : m2 < 2 ^ 64 := by rw [hm2]; exact mask64 hle
        have HM2 := Lib.hid hm2
        clear hm2 hb
        go_wp2_with fail
        clear hand hcm
        refine Calls.mono hext ?_
        rintro eA wA ⟨vA, rfl, hgA, rfl⟩
        clear hext
        have hgA2 := grown_trans hg hgA
        have hOA : OwnV w2.heap.size 95 wA _ (M.map uV) := hO.kept hgA (.inr (by simp [Value.ownBlock]))
        have hMA := hMp.ext hgA
        have hlook : (Instr.lookup 135 (.map (some (w2.heap.size + 1))) (.int .u64 (m2 : Int)) false).run Tryz.prog wA = .ok (.bool (decide (m2 ∈ M))) wA := hMA.look m2 hm264
        clear hO hMp
        by_cases hk : m2 ∈ M
        ·rw [decide_eq_true hk] at hlook
         have hF2 := Lib.hid (G.fnd_known (x := x) hF.out HH.out.1 (by rw [hm.out]; exact HH.out.2) (by rw [← HM2.out]; exact hk))
         clear hF hk
         go_wp2
         clear hlook
         go_roundw
         case rel => exact ⟨M, x + 1, _, rfl, by go_num, by omega, hlt, hgA2, hOA, hMA, hF2, hm⟩
         case measure => simp [intOf]; omega
        ·rw [decide_eq_false hk] at hlook
         have hF2 := G.fnd_new hF.out hlt HH.out.1 (by rw [hm.out]; exact HH.out.2) hxP (by rw [← HM2.out]; exact hk)
         rw [← HM2.out] at hF2
         have hm3 : gt (M ++ [m2]) i = m := by rw [gt_append_left _ _ _ hlt]; exact hm.out
         have HF2 := Lib.hid (And.intro hF2 hm3)
         obtain ⟨w4, hrun, hM4, hg4⟩ := hMA.update m2 hm264 true trivial (by omega)
         have hrun2 : (Instr.mapUpdate 135 (.map (some (w2.heap.size + 1))) (.int .u64 (m2 : Int)) (.bool true)).run Tryz.prog wA = .ok () w4 := hrun
         have hne := hMA.ne hOA
         have hO4 : OwnV w2.heap.size 95 w4 _ (M.map uV) := hOA.kept hg4 (.inr (fun e => hne e.symm))
         have hmbs := hMA.lt
         have hgw4 : Ext w2 w4 := grown_own hgA2 hg4 (fun j hj hlt => by cases hj; omega)
         have hM4' : MapAt mapUB w4 (w2.heap.size + 1) (fun a => decide (a ∈ M ++ [m2])) (M ++ [m2]).length := by
          refine MapAt.le (hM4.congr (fun a => ?_)) (by simp)
          by_cases h : a = m2 <;> simp [h]
         have hap : (M ++ [m2]).map uV = M.map uV ++ [.int .u64 (m2 : Int)] := by rw [List.map_append]; rfl
         have hxl : (M ++ [m2]).length = M.length + 1 := by simp
         have hml : (M.map uV).length ≤ 1000000 := by rw [List.length_map]; omega
         have HAP := Lib.hid (And.intro hap (And.intro hxl hml))
         clear hF hF2 hm3 hrun hOA hMA hM4 hg4 hap hxl hml hk
         go_wp2_with (first | (at_builtin; refine wp_app_v 88 95 (.int .u64 0) 8 und_u64s Tryz.infoU64 rfl (by decide) rfl _ _ rfl w2.heap.size w4 _ (.int .u64 (m2 : Int)) (M.map uV) rfl hO4 rfl rfl rfl HAP.out.2.2 hgw4.size ?_; intro v8 w8 hO8 hg8) | fail)
         have hgw8 : Ext w2 w8 := grown_own hgw4 hg8 (fun b hb hlt => by have := (hO4.lt b hb).1; omega)
         have hM8 := hM4'.kept hg8 hne
         clear hlook hrun2
         go_roundw
         case rel => exact ⟨M ++ [m2], x + 1, v8, rfl, by go_num, by omega, by rw [HAP.out.2.1]; omega, hgw8, by rw [HAP.out.1]; exact hO8, hM8, Lib.hid HF2.out.1, Lib.hid HF2.out.2⟩
         case measure => simp [intOf]; omega
      ·have hxe : x = N := by omega
       have hF2 := Lib.hid (hF.out.next (by have := HF.out.2.2.2.1; omega))
       subst hxe
       clear hcm hF
       go_wp2
       go_roundw
       case rel => exact ⟨M, i + 1, _, rfl, by go_num, by omega, hg, hO, hMp, hF2⟩
       case measure => simp [intOf]; omega
    ·have hie : i = M.length := by omega
     have hfl := G.fnd_list hF.out (by omega)
     have hfe : ∀ j, j < M.length → ∃ H, Sub P H ∧ gt M j = msk P H := fun j hj => hF.out.sub _ (gt_mem hj)
     obtain ⟨CS, hCS⟩ : ∃ CS, CS = M.map (fun m => cseq P (ofMask P m)) := ⟨_, rfl⟩
     have hCl : CS.length = M.length := by rw [hCS, List.length_map]
     have hCg : ∀ j, j < M.length → gt CS j = cseq P (ofMask P (gt M j)) := fun j hj => by rw [hCS]; exact gt_map _ _ _ hj
     rw [← hCS] at hfl
     have HFL := Lib.hid (And.intro hfl (And.intro hfe (And.intro hCl hCg))); clear hfl hfe hCl hCg hCS hF hMp
     have hE4 : Ext wr (wr.alloc (.cells #[.pointer (some ⟨pb, po, none⟩), .slice none 0 0, .slice none 0 0] 90)) := World.grownBy_alloc _ _ _
     have hX := Box3.made wr 90 (.pointer (some ⟨pb, po, none⟩)) (.slice none 0 0) (.slice none 0 0)
     have hs4 : (wr.alloc (.cells #[.pointer (some ⟨pb, po, none⟩), .slice none 0 0, .slice none 0 0] 90)).heap.size = wr.heap.size + 1 := by simp
     have hMs := MapAt.made mapSU (wr.alloc (.cells #[.pointer (some ⟨pb, po, none⟩), .slice none 0 0, .slice none 0 0] 90))
     have hmk := makeSU (wr.alloc (.cells #[.pointer (some ⟨pb, po, none⟩), .slice none 0 0, .slice none 0 0] 90))
     rw [hs4] at hMs hmk
     have hE5 : Ext (wr.alloc (.cells #[.pointer (some ⟨pb, po, none⟩), .slice none 0 0, .slice none 0 0] 90)) ((wr.alloc (.cells #[.pointer (some ⟨pb, po, none⟩), .slice none 0 0, .slice none 0 0] 90)).alloc (.map #[] 0)) := World.grownBy_alloc _ _ _
     have hX5 := hX.ext hE5
     have hE6 := grown_trans hE4 hE5
     obtain ⟨W5, hW5⟩ : ∃ W5, W5 = (wr.alloc (.cells #[.pointer (some ⟨pb, po, none⟩), .slice none 0 0, .slice none 0 0] 90)).alloc (.map #[] 0) := ⟨_, rfl⟩
     rw [← hW5] at hX5 hE6 hMs hmk
     obtain ⟨wM, hwM⟩ : ∃ wM : World, wM = wr := ⟨_, rfl⟩
     have hb1 := HB.out.1 wr (grown_trans hg02 hg)
     have H5 := Lib.hid (And.intro hX5 (And.intro hE6 hMs)); clear hX5 hE6 hMs hX hE4 hE5 hs4
     have hgM : Ext w0 wM := by rw [hwM]; exact grown_trans hg02 hg
     have hOM : OwnV w2.heap.size 95 wM (.slice (some ⟨g, 0, none⟩) M.length cap) (M.map uV) := by rw [hwM]; exact hO
     have htM : Rows2 Any wM (.slice at' N capt) (tabL P) := by rw [hwM]; exact Rows2.ext htN hg
     have hlti : ¬ (i : Int) < M.length := by omega
     clear hO hg hMne
     go_wp2
     clear hb1 hmk hi hlt hie hlti
     --<B
     rw [← hwM] at H5 hW5
     rw [← hwM, ← hW5]
     clear hW5 hwM
     go_loopw [75] (fun jv wr => ∃ (k : Nat) (lv : Value) (f : ByteArray → Nat), jv = .int .i64 k ∧ k ≤ M.length ∧ Ext wM wr ∧ Box3 wr wM.heap.size (.pointer (some ⟨pb, po, none⟩)) lv (.slice none 0 0) ∧
      SlOA (fun F w u (x : List (List Int)) => RowsD F w u x) 23 wM.heap.size (fun b => b = wM.heap.size ∨ b = wM.heap.size + 1) wr lv (CS.take k) ∧ MapAt mapSU wr (wM.heap.size + 1) f k ∧ Hid (∀ j, j < k → f (keyS (gt CS j)) = gt M j)) (fun jv _ => M.length - (intOf jv).toNat)
     case atStart => exact ⟨0, _, _, rfl, by omega, H5.out.2.1, H5.out.1, by rw [List.take_zero]; exact ⟨[], fun _ _ => False, rfl, World.ownsRow_nil _ _ _ _, by simp, by simp, by simp, by simp, by simp [Value.ownBlock]⟩, H5.out.2.2, Lib.hid (fun j hj => by omega)⟩
     case round =>
      clear H5
      obtain ⟨k, lv, f, rfl, hk, hg, hX, hL, hMp, hf⟩ := hrel
      have hg0r := grown_trans hgM hg
      by_cases hlt : k < M.length
      ·have hlt' : (k : Int) < M.length := by omega
       obtain ⟨H, SH, hmH⟩ := HFL.out.2.1 k hlt
       have hcs := HFL.out.2.2.2 k hlt
       rw [hmH, G.ofMask_msk SH] at hcs
       have hcm := hg.cell (uV_cell hOM hlt) (by simp)
       obtain ⟨m, hm⟩ : ∃ m, m = gt M k := ⟨_, rfl⟩
       rw [← hm] at hcm hmH
       have hm64 : m < 2 ^ 64 := by rw [hmH]; exact mask64 hle
       have HH := Lib.hid (And.intro SH (And.intro hmH (And.intro hcs hm))); clear SH hmH hcs hm
       have hb1 := HB.out.1 wr hg0r
       have hpr := HB.out.2.2.ext hg0r
       have hxs := hX.1
       have hmbl := hMp.lt
       go_wp2_with fail
       clear hcm hb1
       refine Calls.mono (newSequence_ok P wr _ Sp (fun _ => False) hpr hn6) ?_
       rintro eS wS ⟨vS, rfl, hgS, sb, gb, rfl, hs⟩
       have hgb0 := hs.tab.lt
       have hsb0 := hs.sB
       have hI0 : Ind P (genP P (bitsTo P m 0)) (gt (List.replicate P.orders.length [])) := by rw [bitsTo_zero, G.genP_none]; exact G.ind_one
       have HI0 := Lib.hid hI0; clear hI0
       obtain ⟨wo, rfl⟩ : ∃ wo : World, wo = wr := ⟨_, rfl⟩
       go_wp2
       go_loopw [83] (fun xv wr => ∃ (x : Nat) (b : List (List Int)), xv = .int .i64 x ∧ x ≤ N ∧ wS.grownBy wr (some gb) ∧ SeqAt wo.heap.size (fun _ => False) wr sb gb (.pointer (some ⟨pb, po, none⟩)) P.orders.length b ∧ Hid (Ind P (genP P (bitsTo P m x)) (gt b))) (fun xv _ => N - (intOf xv).toNat)
       case atStart => exact ⟨0, _, rfl, by omega, grown_refl _ _, hs, HI0⟩
       case round =>
        clear hs HI0
        obtain ⟨x, b, rfl, hx, hgb, hs, hI⟩ := hrel
        have hgb0 := hs.tab.lt
        have hgr : Ext wo wr := grown_own hgS hgb (fun j hj hlt => by cases hj; omega)
        have hg0r' := grown_trans hg0r hgr
        by_cases hxN : x < N
        ·have hxN' : (x : Int) < N := by omega
         have hand := bit_and m x hm64
         cases hb : m.testBit x with
         | false =>
          rw [hb] at hand
          have hand : bits .and .u64 ((m : Int) / 2 ^ x) 1 = 0 := hand
          have hI2 := hI.out
          rw [← bitsTo_skip hb] at hI2
          have HI2 := Lib.hid hI2; clear hI2 hb hI
          go_wp2
          clear hand
          go_roundw
          case rel => exact ⟨x + 1, b, by go_num, by omega, hgb, hs, HI2⟩
          case measure => simp [intOf]; omega
         | true =>
          rw [hb] at hand
          have hand : bits .and .u64 ((m : Int) / 2 ^ x) 1 = 1 := hand
          have hb1 := HB.out.1 wr hg0r'
          have hxV : Vec P.orders (elAt P (x : Int)) := G.elAtV (by have := HF.out.2.2.2.1; omega)
          have hxl : (elAt P (x : Int)).length ≤ 6 := by rw [hxV.1]; exact hn6
          have HXV := Lib.hid (And.intro hxV (And.intro hxl hb)); clear hxV hxl hb
          go_wp2_with fail
          clear hand hb1
          refine Calls.mono (elementAt_ok P hP wr _ (x : Int) Sp (HB.out.2.2.ext hg0r') (by omega) (by omega)) ?_
          rintro eY wY ⟨yv, rfl, hgY, hY⟩
          have hYO : OwnIn (From wr.heap.size) wY yv (elAt P (x : Int)) := OwnIn.of hY (by have := HXV.out.2.1; omega) (fun j h1 _ => h1)
          have hlit : RowsO wr.heap.size (wY.alloc (.cells #[yv] 22)) (.slice (some ⟨wY.heap.size, 0, none⟩) 1 1) [elAt P (x : Int)] := SlO.lit1 rdOwn hYO hgY.size
          have hga : Ext wY (wY.alloc (.cells #[yv] 22)) := World.grownBy_alloc _ _ _
          have hga2 := grown_trans hgY hga
          have hs8 := hs.ext hga2
          have hR8 : Rows2 (fun k => ¬ (k = gb ∨ k = sb)) (wY.alloc (.cells #[yv] 22)) (.slice (some ⟨wY.heap.size, 0, none⟩) 1 1) [elAt P (x : Int)] := Rows2.sub (RowsD.rows (hlit.toD (by simp))) (fun k hk _ => by
           have h1 : wr.heap.size ≤ k := hk
           have := hs.slt
           omega)
          obtain ⟨ya, yc, hyv, _, _⟩ := hYO.ints.shape
          subst hyv
          have hp8 : PresP (fun k => k ≠ gb) (wY.alloc (.cells #[.slice ya (elAt P (x : Int)).length yc] 22)) (.pointer (some ⟨pb, po, none⟩)) P := by
           have h1 := HB.out.2.2.ext (grown_trans hg0r' hga2)
           have h0 := hpr
           exact h0.mono (fun k _ hlt => ⟨by omega, Nat.lt_of_lt_of_le hlt (grown_trans hgr hga2).size, (grown_trans hgr hga2).block k hlt (by simp)⟩)
          have H8 := Lib.hid (And.intro hs8 (And.intro hR8 hp8)); clear hs8 hR8 hp8 hlit hYO hY
          go_wp2_with fail
          refine Calls.mono (add_ok P G _ sb gb wo.heap.size _ _ [elAt P (x : Int)] b _ H8.out.2.2 H8.out.1 hI.out (fun z hz => by rw [List.mem_singleton.1 hz]; exact HXV.out.1) H8.out.2.1 (by simp)) ?_
          rintro eA wA ⟨b2, gg, rfl, hgA, hsA, hA, _, _⟩
          rw [bitsTo_add HXV.out.2.2] at hA
          have HA := Lib.hid hA; clear hA hI
          have hgA2 : wS.grownBy wA (some gb) := grown_trans hgb (grown_trans (grown_of_ext _ hga2) hgA)
          clear H8 hga hga2 hgA
          go_wp2
          go_roundw
          case rel => exact ⟨x + 1, b2, by go_num, by omega, hgA2, hsA, HA⟩
          case measure => simp [intOf]; omega
        ·have hxe : x = N := by omega
         have hI2 := hI.out
         rw [hxe, HF.out.2.2.2.1, HH.out.2.1, G.bitsTo_all HH.out.1] at hI2
         have HI2 := Lib.hid hI2; clear hI2 hI
         subst hxe
         go_wp2_with fail
         refine Calls.mono (canonical_ok P G wr sb gb wo.heap.size _ b H Sp _ (HB.out.2.2.ext hg0r') hs HI2.out) ?_
         rintro eC wC ⟨uv, rfl, hgC, hUC⟩
         have hgoC := grown_trans hgr hgC
         have hul := G.cseq_len HH.out.1
         have huV : ∀ z ∈ cseq P H, Vec P.orders z := fun z hz => HH.out.1.vec z ((G.seq_facts HH.out.1).2.1 z hz)
         obtain ⟨u, hu⟩ : ∃ u, u = cseq P H := ⟨_, rfl⟩
         rw [← hu] at hUC hul huV
         have hUD : RowsD (From wo.heap.size) wC uv u := rdRows.mono (hUC.toD (by omega)) (fun k hk hlt => ⟨Nat.le_trans hgr.size hk, hlt, rfl⟩)
         obtain ⟨ua, uc, hvu, _, _⟩ := SlD.shape hUD
         subst hvu
         have hkl := keyL_len u 6 (fun z hz => by rw [(huV z hz).1]; exact hn6)
         have hks := keyS_size u
         have hsz : (keyS u).size ≤ maxLen := by unfold maxLen; have : (6 + 1) * u.length ≤ 100 := (by omega); omega
         have hkey := keyOf_ok u wC _ _ (RowsD.rows hUD) (fun z hz => (vec_bytes hP (huV z hz)).2) (fun z hz => by rw [(huV z hz).1]; omega) (by omega)
         obtain ⟨s, hs'⟩ : ∃ s, s = keyS u := ⟨_, rfl⟩
         rw [← hs'] at hsz hkey
         have HU := Lib.hid (And.intro hu (And.intro huV (And.intro hs' hul))); clear hu huV hs' hkl hks hUC
         go_wp2_with fail
         refine Calls.mono hkey ?_
         rintro eK wK ⟨kv, rfl, hgK, rfl⟩
         clear hkey
         have hgoK := grown_trans hgoC hgK
         obtain ⟨wU, hrun, hMU, hgU⟩ := (hMp.ext hgoK).update s hsz m hm64 (by omega)
         have hrun2 : (Instr.mapUpdate 137 (.map (some (wM.heap.size + 1))) (.string s) (.int .u64 (m : Int))).run Tryz.prog wK = .ok () wU := hrun
         have hgoU : wo.grownBy wU (some (wM.heap.size + 1)) := grown_trans (grown_of_ext _ hgoK) hgU
         have hXK := hX.ext hgoK
         have hXU : Box3 wU wM.heap.size (.pointer (some ⟨pb, po, none⟩)) lv (.slice none 0 0) := hXK.keep hgU.size (hgU.block _ hXK.1 (by simp))
         have hUU : RowsD (From wo.heap.size) wU (.slice ua u.length uc) u := rdRows.mono hUD (fun k hk hlt => ⟨hk, Nat.lt_of_lt_of_le hlt (Nat.le_trans hgK.size hgU.size), (hgU.block k (Nat.lt_of_lt_of_le hlt hgK.size) (by
          have h1 : wo.heap.size ≤ k := hk
          intro e; cases e; omega)).trans (hgK.block k hlt (by simp))⟩)
         have hav := hL.avoids
         have hctl : (CS.take k).length ≤ 1000000 := by rw [List.length_take]; omega
         have hbo := hg.size
         clear hrun hXK hUD hgU
         obtain ⟨hx0, hx1, hx2, hx3, hx4⟩ := id hXU
         obtain ⟨lva, lvn, lvc, hlv⟩ : ∃ a n c, lv = .slice a n c := by
          obtain ⟨a, c, h, _⟩ := SlD.shape (hL.o.toD (by omega)); exact ⟨_, _, _, h⟩
         subst hlv
         go_wp2_with (first | (at_builtin; refine wp_app_oneA rdRows 24 23 (.slice none 0 0) 24 und_r3 Tryz.infoR3 rfl (by decide) rfl _ _ rfl wM.heap.size _ wo wU _ _ (CS.take k) u rfl hL (fun b hb => by rcases hb with rfl | rfl <;> omega) (some (wM.heap.size + 1)) hgoU (fun b hb => by cases hb; exact .inr rfl) hUU rfl rfl hctl hbo ?_; intro v8 w8 hL8 hg8; have hX8 := hXU.keep hg8.size (hg8.block _ hXU.1 (fun e => (hav _ e.symm).1 (.inl rfl))); obtain ⟨hy0, hy1, hy2, hy3, hy4⟩ := id hX8; obtain ⟨ca8, n8, cc8, hv8⟩ : ∃ a n c, v8 = .slice a n c := (by obtain ⟨a, c, h, _⟩ := SlD.shape (hL8.o.toD (by rw [List.length_append]; simp; omega)); exact ⟨_, _, _, h⟩); subst hv8) | fail)
         clear hx1 hx2 hx3 hx4 hrun2
         have hX9 := (hX8.put (.slice ca8 n8 cc8)).2.1
         have hgp := grown_put w8 ⟨wM.heap.size, 1, none⟩ (.slice ca8 n8 cc8)
         have hL9 := hL8.kept rdRows hgp (.inl rfl)
         have hM9 := (hMU.kept hg8 (fun e => (hav _ e.symm).1 (.inr rfl))).kept hgp (by simp)
         have hgwU : Ext wM wU := grown_own hg hgoU (fun b hb hlt => by cases hb; omega)
         have hgw8 : Ext wM w8 := grown_own hgwU hg8 (fun b hb hlt => by have := (hav b hb).2.1; omega)
         have hgw9 : Ext wM (w8.setCell ⟨wM.heap.size, 1, none⟩ (.slice ca8 n8 cc8)) := grown_own hgw8 hgp (fun b hb hlt => by have : wM.heap.size = b := (by simpa using hb); omega)
         have hkC : k < CS.length := by rw [HFL.out.2.2.1]; exact hlt
         have hcsk : CS.take (k + 1) = CS.take k ++ [u] := by rw [take_succ_gt _ k hkC, HH.out.2.2.1, HU.out.1]
         have hnext : ∀ j, j < k + 1 → (if keyS (gt CS j) = s then m else f (keyS (gt CS j))) = gt M j := by
          intro j hj
          by_cases hjk : j = k
          ·subst hjk
           rw [if_pos (by rw [HU.out.2.2.1, HH.out.2.2.1, HU.out.1]), HH.out.2.2.2]
          ·have hjl : j < k := by omega
           rw [if_neg, hf.out j hjl]
           intro he
           rw [HU.out.2.2.1, HU.out.1, ← HH.out.2.2.1] at he
           have h1 := subB_key hP ((HFL.out.1.2 _).1 (gt_mem (l := CS) (i := j) (by omega))) ((HFL.out.1.2 _).1 (gt_mem hkC)) he
           exact hjk (gt_inj HFL.out.1.1 (by omega) hkC h1)
         have HNX := Lib.hid hnext; clear hnext
         have HK9 := Lib.hid (And.intro hX9 (And.intro hL9 (And.intro hM9 (And.intro hgw9 hcsk)))); clear hX9 hL9 hM9 hgw9 hcsk hgp hX8 hL8 hg8 hgoU hgwU hgw8 hUU hXU hMU
         go_wp2
         clear hy1 hy2 hy3 hy4
         go_roundw
         case rel => exact ⟨k + 1, _, _, by go_num, by omega, HK9.out.2.2.2.1, HK9.out.1, by rw [HK9.out.2.2.2.2]; exact HK9.out.2.1, HK9.out.2.2.1, HNX⟩
         case measure => simp [intOf]; omega
      ·have hke : k = M.length := by omega
       have hke0 := hke
       have htk : CS.take k = CS := List.take_of_length_le (by rw [HFL.out.2.2.1]; omega)
       rw [htk] at hL
       have hCn : 0 < CS.length := by
        have := (HFL.out.1.2 _).2 (G.subB_cseq G.sub_one)
        cases CS with
        | nil => cases this
        | cons => simp
       have hCl : CS.length ≤ 1000000 := by rw [HFL.out.2.2.1]; omega
       have hCU : ∀ u ∈ CS, SeqOk P u ∧ u.length ≤ 100 := fun u hu => by
        have h1 := (HFL.out.1.2 u).1 hu
        have h2 := (G.seq_facts (G.subB h1)).1
        rw [← h1.2] at h2
        have := G.sub_len h1
        exact ⟨h2, by omega⟩
       have hav := hL.avoids
       have hbM := hgM.size
       have hbw := HB.out.2.1
       have hlb : lv.ownBlock ≠ some w.heap.size := fun e => by have := (hav _ e).2.1; omega
       have hps : PresP (fun k => lv.ownBlock ≠ some k) wr (.pointer (some ⟨pb, po, none⟩)) P := HB.out.2.2.mono (fun k _ hlt => ⟨fun e => by have := (hav _ e).2.1; omega, Nat.lt_of_lt_of_le hlt hg0r.size, hg0r.block k hlt (by simp)⟩)
       have hsort := sortSubs_ok P hP wr lv CS _ wM.heap.size w.heap.size pb po hL hCn hCl hCU (HB.out.1 wr hg0r) hlb hps
       obtain ⟨hx0, hx1, hx2, hx3, hx4⟩ := id hX
       obtain ⟨lva, lvn, lvc, hlv⟩ : ∃ a n c, lv = .slice a n c := by
        obtain ⟨a, c, h, _⟩ := SlD.shape (hL.o.toD (by omega)); exact ⟨_, _, _, h⟩
       subst hlv
       have hnk : ¬ (k : Int) < M.length := by omega
       clear hps hlb hCU hCn htk hk
       go_wp2_with fail
       clear hx1 hx2 hx3 hx4 hlt hnk hke
       refine Calls.mono hsort ?_
       rintro eZ wZ ⟨rfl, L', hLZ, hperm, hsorted, hgZ⟩
       clear hsort
       have hLat := latL_of G hperm hsorted HFL.out.1.1 HFL.out.1.2
       have hLl : L'.length ≤ 1000000 := by rw [hperm.length_eq]; exact hCl
       have hgMZ : Ext wM wZ := grown_own hg hgZ (fun b hb hlt => by have := (hav b hb).2.1; omega)
       have hXZ := hX.keep hgZ.size (hgZ.block _ hX.1 (fun e => (hav _ e.symm).1 (.inl rfl)))
       have hMZ := hMp.kept hgZ (fun e => (hav _ e.symm).1 (.inr rfl))
       have hfv : ∀ u ∈ L', f (keyS u) = mskU P u := fun u hu => by
        have hu2 := hperm.mem_iff.1 hu
        obtain ⟨j, hj, rfl⟩ := mem_gt hu2
        rw [hf.out j (by rw [HFL.out.2.2.1] at hj; rw [hke0]; exact hj)]
        obtain ⟨H, SH, e⟩ := HFL.out.2.1 j (by rw [HFL.out.2.2.1] at hj; exact hj)
        rw [HFL.out.2.2.2 j (by rw [HFL.out.2.2.1] at hj; exact hj), e, G.ofMask_msk SH, G.mskU_cseq SH]
       have hln : lvn = L'.length := by
        obtain ⟨a, c, h, _⟩ := SlD.shape (hLZ.o.toD (by omega)); simp only [Value.slice.injEq] at h; exact h.2.1
       subst hln
       have HZ := Lib.hid (And.intro hLat (And.intro hfv (And.intro hLZ (And.intro hgMZ (And.intro hXZ hMZ))))); clear hLat hfv hperm hsorted hf hLZ hgMZ hMZ hMp hX hL hgZ hg hg0r hav
       obtain ⟨_, hy1, hy2, hy3, hy4⟩ := id hXZ
       go_wp2
       clear hy1 hy2 hy3 hy4 hXZ
       --<C
       go_loopw [126] (fun jv wr => ∃ (k : Nat) (mv : Value), jv = .int .i64 k ∧ k ≤ L'.length ∧ wZ.grownBy wr (some wM.heap.size) ∧ Box3 wr wM.heap.size (.pointer (some ⟨pb, po, none⟩)) (.slice lva L'.length lvc) mv ∧
        OwnV wZ.heap.size 95 wr mv ((L'.take k).map fun u => uV (mskU P u))) (fun jv _ => L'.length - (intOf jv).toNat)
       case atStart => exact ⟨0, _, rfl, by omega, grown_refl _ _, HZ.out.2.2.2.2.1, World.ownsRow_nil _ _ _ _⟩
       case round =>
        obtain ⟨k, mv, rfl, hk, hg, hX, hO⟩ := hrel
        have hLr := HZ.out.2.2.1.kept rdRows hg (.inl rfl)
        have hR3 := Rows3D.rows (hLr.o.toD (by omega))
        by_cases hlt : k < L'.length
        ·have hlt' : (k : Int) < L'.length := by omega
         obtain ⟨bL, oL, a2, cap2, rfl, _, _, hcu, hru⟩ := Rows3.at hR3 k hlt
         have hbu := (HZ.out.1.2 _).1 (gt_mem hlt)
         have hue := HZ.out.2.1 _ (gt_mem hlt)
         obtain ⟨u, hu⟩ : ∃ u, u = gt L' k := ⟨_, rfl⟩
         rw [← hu] at hbu hue hcu hru
         have hul := G.sub_len hbu
         have hkl := keyL_len u 6 (fun z hz => by rw [(hbu.1 z hz).1]; exact hn6)
         have hks := keyS_size u
         have hsz : (keyS u).size ≤ maxLen := by unfold maxLen; have : (6 + 1) * u.length ≤ 100 := (by omega); omega
         have hlook : ∀ w', wZ.grownBy w' (some wM.heap.size) → (Instr.lookup 137 (.map (some (wM.heap.size + 1))) (.string (keyS u)) false).run Tryz.prog w' = .ok (.int .u64 ((mskU P u : Nat) : Int)) w' := fun w' h => by
          have := (HZ.out.2.2.2.2.2.kept h (by simp)).look (keyS u) hsz
          rw [hue] at this; exact this
         obtain ⟨q, hq⟩ : ∃ q, q = mskU P u := ⟨_, rfl⟩
         rw [← hq] at hlook
         have hkey := keyOf_ok u wr.drew (.slice a2 u.length cap2) _ (Rows2.ext hru (grown_drew _ _)) (fun z hz => (vec_bytes hP (hbu.1 z hz)).2) (fun z hz => by rw [(hbu.1 z hz).1]; omega) (by omega)
         obtain ⟨s, hs⟩ : ∃ s, s = keyS u := ⟨_, rfl⟩
         rw [← hs] at hlook hkey
         have hapv : (L'.take (k + 1)).map (fun u => uV (mskU P u)) = (L'.take k).map (fun u => uV (mskU P u)) ++ [uV q] := by
          rw [take_succ_gt L' k hlt, List.map_append, hq, hu]; rfl
         have hml : ((L'.take k).map fun u => uV (mskU P u)).length ≤ 1000000 := by rw [List.length_map, List.length_take]; omega
         obtain ⟨vs, hvs⟩ : ∃ vs, vs = (L'.take k).map fun u => uV (mskU P u) := ⟨_, rfl⟩
         rw [← hvs] at hapv hml hO
         have HU := Lib.hid (And.intro hbu (And.intro hu (And.intro hul (And.intro hq (And.intro hs (And.intro hapv (And.intro hml hvs))))))); clear hbu hue hu hul hkl hks hsz hq hs hapv hml hvs
         obtain ⟨mva, mvn, mvc, hmv⟩ : ∃ a n c, mv = .slice a n c := by
          rcases hO.form with ⟨h1, _⟩ | ⟨g, cp, h1, _⟩
          ·exact ⟨_, _, _, h1⟩
          ·exact ⟨_, _, _, h1⟩
         subst hmv
         obtain ⟨hy0, hy1, hy2, hy3, hy4⟩ := id hX
         have hzs := hg.size
         go_wp2
         clear hcu hy1 hy2
         refine wp_region_held_drew (S := fun w' => wZ.grownBy w' (some wM.heap.size)) (by kernel_rfl) (by first | exact grown_drew _ _ | exact grown_trans hg (grown_drew _ _) | assumption) (fun hHeld => ?_)
         refine wpAnyH_take (i := 0) (v := ?v0_1) rfl (by kernel_rfl) (by kernel_rfl) (by kernel_rfl) (fun _ _ _ h => h) (Or.inl ⟨by rfl, ?hy0_1⟩) (by assumption) ?rest0_1
         case hy0_1 => (intro w hSw; (try dsimp only at hSw); go_simp; try with_reducible rfl)
         try simp only [Act.put, List.getElem_toArray, List.getElem_cons_succ, List.getElem_cons_zero, List.setIfInBounds_toArray, List.set_cons_zero, List.set_cons_succ]
         refine wpAnyH_take (i := 1) (v := ?v1_2) rfl (by kernel_rfl) (by kernel_rfl) (by kernel_rfl) (fun _ _ _ h => h) (Or.inl ⟨by rfl, ?hy1_2⟩) (by assumption) ?rest1_2
         case hy1_2 => (intro w hSw; (try dsimp only at hSw); go_simp; try with_reducible rfl)
         try simp only [Act.put, List.getElem_toArray, List.getElem_cons_succ, List.getElem_cons_zero, List.setIfInBounds_toArray, List.set_cons_zero, List.set_cons_succ]
         refine wpAnyH_take (i := 2) (v := ?v2_3) rfl (by kernel_rfl) (by kernel_rfl) (by kernel_rfl) (fun _ _ _ h => h) (Or.inl ⟨by rfl, ?hy2_3⟩) (by assumption) ?rest2_3
         case hy2_3 => (intro w hSw; (try dsimp only at hSw); go_simp; try with_reducible rfl)
         try simp only [Act.put, List.getElem_toArray, List.getElem_cons_succ, List.getElem_cons_zero, List.setIfInBounds_toArray, List.set_cons_zero, List.set_cons_succ]
         refine wpAnyH_take (i := 3) (v := ?v3_4) rfl (by kernel_rfl) (by kernel_rfl) (by kernel_rfl) (fun _ _ _ h => h) (Or.inl ⟨by rfl, ?hy3_4⟩) (by assumption) ?rest3_4
         case hy3_4 => (intro w hSw; (try dsimp only at hSw); go_simp; try with_reducible rfl)
         try simp only [Act.put, List.getElem_toArray, List.getElem_cons_succ, List.getElem_cons_zero, List.setIfInBounds_toArray, List.set_cons_zero, List.set_cons_succ]
         refine wpAnyH_take (i := 5) (v := ?v5_5) rfl (by kernel_rfl) (by kernel_rfl) (by kernel_rfl) (fun _ _ _ h => h) (Or.inl ⟨by rfl, ?hy5_5⟩) (by assumption) ?rest5_5
         case hy5_5 => (intro w hSw; (try dsimp only at hSw); go_simp; try with_reducible rfl)
         try simp only [Act.put, List.getElem_toArray, List.getElem_cons_succ, List.getElem_cons_zero, List.setIfInBounds_toArray, List.set_cons_zero, List.set_cons_succ]
         refine wpAnyH_take (i := 6) (v := ?v6_6) rfl (by kernel_rfl) (by kernel_rfl) (by kernel_rfl) (fun _ _ _ h => h) (Or.inl ⟨by rfl, ?hy6_6⟩) (by assumption) ?rest6_6
         case hy6_6 => (intro w hSw; (try dsimp only at hSw); go_simp; try with_reducible rfl)
         try simp only [Act.put, List.getElem_toArray, List.getElem_cons_succ, List.getElem_cons_zero, List.setIfInBounds_toArray, List.set_cons_zero, List.set_cons_succ]
         refine wpAnyH_ready (rs := [4, 7]) (by kernel_rfl) (by simp) ?_
         refine AllReadyH.cons rfl (fun Kc hKc => ?_) (AllReadyH.cons rfl (fun Kc hKc => ?_) AllReadyH.nil)
         ·go_simp
          refine hKc.out _ _ ?_ (fun hHeld => ?_)
          ·assumption
          clear hKc Kc
          try simp only [Act.put, List.getElem_toArray, List.getElem_cons_succ, List.getElem_cons_zero, List.setIfInBounds_toArray, List.set_cons_zero, List.set_cons_succ]
          refine wpAnyH_ready (rs := [7]) (by kernel_rfl) (by simp) ?_
          refine AllReadyH.cons rfl (fun Kc hKc => ?_) AllReadyH.nil
          go_simp
          go_at_call 137
          refine Calls.mono hkey ?_
          rintro eK wK ⟨kv, rfl, hgK, rfl⟩
          have hgK2 : wZ.grownBy wK (some wM.heap.size) := grown_trans hg (grown_of_ext _ (grown_trans (grown_drew _ _) hgK))
          have hXK : Box3 wK wM.heap.size (.pointer (some ⟨pb, po, none⟩)) (.slice (some ⟨bL, oL, none⟩) L'.length lvc) (.slice mva mvn mvc) := hX.ext (grown_trans (grown_drew _ _) hgK)
          have hOK : OwnV wZ.heap.size 95 wK (.slice mva mvn mvc) vs := hO.kept (grown_trans (grown_drew _ _) hgK) (by cases hv : (Value.slice mva mvn mvc).ownBlock <;> simp)
          obtain ⟨hz0, hz1, hz2, hz3, hz4⟩ := id hXK
          go_wp2_with fail
          refine hKc.out _ _ ?_ (fun hHeld => ?_)
          ·exact hgK2
          clear hKc Kc
          try simp only [Act.put, List.getElem_toArray, List.getElem_cons_succ, List.getElem_cons_zero, List.setIfInBounds_toArray, List.set_cons_zero, List.set_cons_succ]
          refine wpAnyH_take (i := 8) (v := ?v8_7) rfl (by kernel_rfl) (by kernel_rfl) (by kernel_rfl) (fun _ _ _ h => h) (Or.inl ⟨by rfl, ?hy8_7⟩) (by assumption) ?rest8_7
          case hy8_7 => (intro w hSw; (try dsimp only at hSw); go_simp; try with_reducible rfl)
          try simp only [Act.put, List.getElem_toArray, List.getElem_cons_succ, List.getElem_cons_zero, List.setIfInBounds_toArray, List.set_cons_zero, List.set_cons_succ]
          refine wpAnyH_ready (rs := [9]) (by kernel_rfl) (by simp) ?_
          refine AllReadyH.cons rfl (fun Kc hKc => ?_) AllReadyH.nil
          go_simp
          refine hKc.out _ _ ?_ (fun hHeld => ?_)
          ·exact grown_trans hgK2 (grown_of_ext _ (World.grownBy_alloc _ _ _))
          clear hKc Kc
          try simp only [Act.put, List.getElem_toArray, List.getElem_cons_succ, List.getElem_cons_zero, List.setIfInBounds_toArray, List.set_cons_zero, List.set_cons_succ]
          refine wpAnyH_ready (rs := [10]) (by kernel_rfl) (by simp) ?_
          refine AllReadyH.cons rfl (fun Kc hKc => ?_) AllReadyH.nil
          refine step_app_u rfl _ _ rfl wZ.heap.size (.slice mva mvn mvc) vs q rfl wK hOK rfl rfl HU.out.2.2.2.2.2.2.1 hgK2.size ?_
          intro v8 w8 hO8 hg8
          have hbk : ∀ b, (Value.slice mva mvn mvc).ownBlock = some b → wZ.heap.size ≤ b := fun b hb => (hOK.lt b hb).1
          have hX8 := hXK.keep hg8.size (hg8.block _ hXK.1 (fun e => by have := hbk _ e.symm; omega))
          have hgw8 : wZ.grownBy w8 (some wM.heap.size) := grown_own hgK2 hg8 (fun b hb hlt => by have := hbk b hb; omega)
          obtain ⟨ja, jn, jc, hj8⟩ : ∃ a n c, v8 = .slice a n c := (by rcases hO8.form with ⟨h1, _⟩ | ⟨g, cp, h1, _⟩ <;> exact ⟨_, _, _, h1⟩)
          subst hj8
          have hX9 := (hX8.put (.slice ja jn jc)).2.2
          have hgp := grown_put w8 ⟨wM.heap.size, 2, none⟩ (.slice ja jn jc)
          have hne8 : (Value.slice ja jn jc).ownBlock = none ∨ (Value.slice ja jn jc).ownBlock ≠ some wM.heap.size := .inr (fun e => by have := (hO8.lt _ e).1; omega)
          have hO9 := hO8.kept hgp hne8
          rw [← HU.out.2.2.2.2.2.1] at hO9
          have hgw9 := grown_trans hgw8 hgp
          obtain ⟨hj0, hj1, hj2, hj3, hj4⟩ := id hX8
          refine hKc.out _ _ ?_ (fun hHeld => ?_)
          ·exact hgw8
          clear hKc Kc
          try simp only [Act.put, List.getElem_toArray, List.getElem_cons_succ, List.getElem_cons_zero, List.setIfInBounds_toArray, List.set_cons_zero, List.set_cons_succ]
          refine wpAnyH_take (i := 11) (v := ?v11_8) rfl (by kernel_rfl) (by kernel_rfl) (by kernel_rfl) (fun _ _ _ h => h) (Or.inl ⟨by rfl, ?hy11_8⟩) (by assumption) ?rest11_8
          case hy11_8 => (intro w hSw; (try dsimp only at hSw); go_simp; try with_reducible rfl)
          try simp only [Act.put, List.getElem_toArray, List.getElem_cons_succ, List.getElem_cons_zero, List.setIfInBounds_toArray, List.set_cons_zero, List.set_cons_succ]
          refine wpAnyH_take (i := 12) (v := ?v12_9) rfl (by kernel_rfl) (by kernel_rfl) (by kernel_rfl) (fun _ _ _ h => h) (Or.inl ⟨by rfl, ?hy12_9⟩) (by assumption) ?rest12_9
          case hy12_9 => (intro w hSw; (try dsimp only at hSw); go_simp; try with_reducible rfl)
          try simp only [Act.put, List.getElem_toArray, List.getElem_cons_succ, List.getElem_cons_zero, List.setIfInBounds_toArray, List.set_cons_zero, List.set_cons_succ]
          refine wpAnyH_ready (rs := [13]) (by kernel_rfl) (by simp) ?_
          refine AllReadyH.cons rfl (fun Kc hKc => ?_) AllReadyH.nil
          go_simp
          refine hKc.out _ _ ?_ (fun hHeld => ?_)
          ·exact hgw9
          clear hKc Kc
          try simp only [Act.put, List.getElem_toArray, List.getElem_cons_succ, List.getElem_cons_zero, List.setIfInBounds_toArray, List.set_cons_zero, List.set_cons_succ]
          refine wpAnyH_done (by kernel_rfl) ?_ _
          clear hz1 hz2 hz3 hz4 hj1 hj2 hj3 hj4 hy3 hy4
          go_wp2
          go_roundw
          case rel => exact ⟨k + 1, _, by go_num, by omega, hgw9, hX9, hO9⟩
          case measure => simp [intOf]; omega
         ·go_simp
          go_at_call 137
          refine Calls.mono hkey ?_
          rintro eK wK ⟨kv, rfl, hgK, rfl⟩
          have hgK2 : wZ.grownBy wK (some wM.heap.size) := grown_trans hg (grown_of_ext _ (grown_trans (grown_drew _ _) hgK))
          have hXK : Box3 wK wM.heap.size (.pointer (some ⟨pb, po, none⟩)) (.slice (some ⟨bL, oL, none⟩) L'.length lvc) (.slice mva mvn mvc) := hX.ext (grown_trans (grown_drew _ _) hgK)
          have hOK : OwnV wZ.heap.size 95 wK (.slice mva mvn mvc) vs := hO.kept (grown_trans (grown_drew _ _) hgK) (by cases hv : (Value.slice mva mvn mvc).ownBlock <;> simp)
          obtain ⟨hz0, hz1, hz2, hz3, hz4⟩ := id hXK
          go_wp2_with fail
          refine hKc.out _ _ ?_ (fun hHeld => ?_)
          ·exact hgK2
          clear hKc Kc
          try simp only [Act.put, List.getElem_toArray, List.getElem_cons_succ, List.getElem_cons_zero, List.setIfInBounds_toArray, List.set_cons_zero, List.set_cons_succ]
          refine wpAnyH_take (i := 8) (v := ?v8_10) rfl (by kernel_rfl) (by kernel_rfl) (by kernel_rfl) (fun _ _ _ h => h) (Or.inl ⟨by rfl, ?hy8_10⟩) (by assumption) ?rest8_10
          case hy8_10 => (intro w hSw; (try dsimp only at hSw); go_simp; try with_reducible rfl)
          try simp only [Act.put, List.getElem_toArray, List.getElem_cons_succ, List.getElem_cons_zero, List.setIfInBounds_toArray, List.set_cons_zero, List.set_cons_succ]
          refine wpAnyH_ready (rs := [4, 9]) (by kernel_rfl) (by simp) ?_
          refine AllReadyH.cons rfl (fun Kc hKc => ?_) (AllReadyH.cons rfl (fun Kc hKc => ?_) AllReadyH.nil)
          ·go_simp
           refine hKc.out _ _ ?_ (fun hHeld => ?_)
           ·assumption
           clear hKc Kc
           try simp only [Act.put, List.getElem_toArray, List.getElem_cons_succ, List.getElem_cons_zero, List.setIfInBounds_toArray, List.set_cons_zero, List.set_cons_succ]
           refine wpAnyH_ready (rs := [9]) (by kernel_rfl) (by simp) ?_
           refine AllReadyH.cons rfl (fun Kc hKc => ?_) AllReadyH.nil
           go_simp
           refine hKc.out _ _ ?_ (fun hHeld => ?_)
           ·exact grown_trans hgK2 (grown_of_ext _ (World.grownBy_alloc _ _ _))
           clear hKc Kc
           try simp only [Act.put, List.getElem_toArray, List.getElem_cons_succ, List.getElem_cons_zero, List.setIfInBounds_toArray, List.set_cons_zero, List.set_cons_succ]
           refine wpAnyH_ready (rs := [10]) (by kernel_rfl) (by simp) ?_
           refine AllReadyH.cons rfl (fun Kc hKc => ?_) AllReadyH.nil
           refine step_app_u rfl _ _ rfl wZ.heap.size (.slice mva mvn mvc) vs q rfl wK hOK rfl rfl HU.out.2.2.2.2.2.2.1 hgK2.size ?_
           intro v8 w8 hO8 hg8
           have hbk : ∀ b, (Value.slice mva mvn mvc).ownBlock = some b → wZ.heap.size ≤ b := fun b hb => (hOK.lt b hb).1
           have hX8 := hXK.keep hg8.size (hg8.block _ hXK.1 (fun e => by have := hbk _ e.symm; omega))
           have hgw8 : wZ.grownBy w8 (some wM.heap.size) := grown_own hgK2 hg8 (fun b hb hlt => by have := hbk b hb; omega)
           obtain ⟨ja, jn, jc, hj8⟩ : ∃ a n c, v8 = .slice a n c := (by rcases hO8.form with ⟨h1, _⟩ | ⟨g, cp, h1, _⟩ <;> exact ⟨_, _, _, h1⟩)
           subst hj8
           have hX9 := (hX8.put (.slice ja jn jc)).2.2
           have hgp := grown_put w8 ⟨wM.heap.size, 2, none⟩ (.slice ja jn jc)
           have hne8 : (Value.slice ja jn jc).ownBlock = none ∨ (Value.slice ja jn jc).ownBlock ≠ some wM.heap.size := .inr (fun e => by have := (hO8.lt _ e).1; omega)
           have hO9 := hO8.kept hgp hne8
           rw [← HU.out.2.2.2.2.2.1] at hO9
           have hgw9 := grown_trans hgw8 hgp
           obtain ⟨hj0, hj1, hj2, hj3, hj4⟩ := id hX8
           refine hKc.out _ _ ?_ (fun hHeld => ?_)
           ·exact hgw8
           clear hKc Kc
           try simp only [Act.put, List.getElem_toArray, List.getElem_cons_succ, List.getElem_cons_zero, List.setIfInBounds_toArray, List.set_cons_zero, List.set_cons_succ]
           refine wpAnyH_take (i := 11) (v := ?v11_11) rfl (by kernel_rfl) (by kernel_rfl) (by kernel_rfl) (fun _ _ _ h => h) (Or.inl ⟨by rfl, ?hy11_11⟩) (by assumption) ?rest11_11
           case hy11_11 => (intro w hSw; (try dsimp only at hSw); go_simp; try with_reducible rfl)
           try simp only [Act.put, List.getElem_toArray, List.getElem_cons_succ, List.getElem_cons_zero, List.setIfInBounds_toArray, List.set_cons_zero, List.set_cons_succ]
           refine wpAnyH_take (i := 12) (v := ?v12_12) rfl (by kernel_rfl) (by kernel_rfl) (by kernel_rfl) (fun _ _ _ h => h) (Or.inl ⟨by rfl, ?hy12_12⟩) (by assumption) ?rest12_12
           case hy12_12 => (intro w hSw; (try dsimp only at hSw); go_simp; try with_reducible rfl)
           try simp only [Act.put, List.getElem_toArray, List.getElem_cons_succ, List.getElem_cons_zero, List.setIfInBounds_toArray, List.set_cons_zero, List.set_cons_succ]
           refine wpAnyH_ready (rs := [13]) (by kernel_rfl) (by simp) ?_
           refine AllReadyH.cons rfl (fun Kc hKc => ?_) AllReadyH.nil
           go_simp
           refine hKc.out _ _ ?_ (fun hHeld => ?_)
           ·exact hgw9
           clear hKc Kc
           try simp only [Act.put, List.getElem_toArray, List.getElem_cons_succ, List.getElem_cons_zero, List.setIfInBounds_toArray, List.set_cons_zero, List.set_cons_succ]
           refine wpAnyH_done (by kernel_rfl) ?_ _
           clear hz1 hz2 hz3 hz4 hj1 hj2 hj3 hj4 hy3 hy4
           go_wp2
           go_roundw
           case rel => exact ⟨k + 1, _, by go_num, by omega, hgw9, hX9, hO9⟩
           case measure => simp [intOf]; omega
          ·go_simp
           refine hKc.out _ _ ?_ (fun hHeld => ?_)
           ·exact grown_trans hgK2 (grown_of_ext _ (World.grownBy_alloc _ _ _))
           clear hKc Kc
           try simp only [Act.put, List.getElem_toArray, List.getElem_cons_succ, List.getElem_cons_zero, List.setIfInBounds_toArray, List.set_cons_zero, List.set_cons_succ]
           refine wpAnyH_ready (rs := [4]) (by kernel_rfl) (by simp) ?_
           refine AllReadyH.cons rfl (fun Kc hKc => ?_) AllReadyH.nil
           go_simp
           refine hKc.out _ _ ?_ (fun hHeld => ?_)
           ·assumption
           clear hKc Kc
           try simp only [Act.put, List.getElem_toArray, List.getElem_cons_succ, List.getElem_cons_zero, List.setIfInBounds_toArray, List.set_cons_zero, List.set_cons_succ]
           refine wpAnyH_ready (rs := [10]) (by kernel_rfl) (by simp) ?_
           refine AllReadyH.cons rfl (fun Kc hKc => ?_) AllReadyH.nil
           refine step_app_u rfl _ _ rfl wZ.heap.size (.slice mva mvn mvc) vs q rfl wK hOK rfl rfl HU.out.2.2.2.2.2.2.1 hgK2.size ?_
           intro v8 w8 hO8 hg8
           have hbk : ∀ b, (Value.slice mva mvn mvc).ownBlock = some b → wZ.heap.size ≤ b := fun b hb => (hOK.lt b hb).1
           have hX8 := hXK.keep hg8.size (hg8.block _ hXK.1 (fun e => by have := hbk _ e.symm; omega))
           have hgw8 : wZ.grownBy w8 (some wM.heap.size) := grown_own hgK2 hg8 (fun b hb hlt => by have := hbk b hb; omega)
           obtain ⟨ja, jn, jc, hj8⟩ : ∃ a n c, v8 = .slice a n c := (by rcases hO8.form with ⟨h1, _⟩ | ⟨g, cp, h1, _⟩ <;> exact ⟨_, _, _, h1⟩)
           subst hj8
           have hX9 := (hX8.put (.slice ja jn jc)).2.2
           have hgp := grown_put w8 ⟨wM.heap.size, 2, none⟩ (.slice ja jn jc)
           have hne8 : (Value.slice ja jn jc).ownBlock = none ∨ (Value.slice ja jn jc).ownBlock ≠ some wM.heap.size := .inr (fun e => by have := (hO8.lt _ e).1; omega)
           have hO9 := hO8.kept hgp hne8
           rw [← HU.out.2.2.2.2.2.1] at hO9
           have hgw9 := grown_trans hgw8 hgp
           obtain ⟨hj0, hj1, hj2, hj3, hj4⟩ := id hX8
           refine hKc.out _ _ ?_ (fun hHeld => ?_)
           ·exact hgw8
           clear hKc Kc
           try simp only [Act.put, List.getElem_toArray, List.getElem_cons_succ, List.getElem_cons_zero, List.setIfInBounds_toArray, List.set_cons_zero, List.set_cons_succ]
           refine wpAnyH_take (i := 11) (v := ?v11_13) rfl (by kernel_rfl) (by kernel_rfl) (by kernel_rfl) (fun _ _ _ h => h) (Or.inl ⟨by rfl, ?hy11_13⟩) (by assumption) ?rest11_13
           case hy11_13 => (intro w hSw; (try dsimp only at hSw); go_simp; try with_reducible rfl)
           try simp only [Act.put, List.getElem_toArray, List.getElem_cons_succ, List.getElem_cons_zero, List.setIfInBounds_toArray, List.set_cons_zero, List.set_cons_succ]
           refine wpAnyH_take (i := 12) (v := ?v12_14) rfl (by kernel_rfl) (by kernel_rfl) (by kernel_rfl) (fun _ _ _ h => h) (Or.inl ⟨by rfl, ?hy12_14⟩) (by assumption) ?rest12_14
           case hy12_14 => (intro w hSw; (try dsimp only at hSw); go_simp; try with_reducible rfl)
           try simp only [Act.put, List.getElem_toArray, List.getElem_cons_succ, List.getElem_cons_zero, List.setIfInBounds_toArray, List.set_cons_zero, List.set_cons_succ]
           refine wpAnyH_ready (rs := [13]) (by kernel_rfl) (by simp) ?_
           refine AllReadyH.cons rfl (fun Kc hKc => ?_) AllReadyH.nil
           go_simp
           refine hKc.out _ _ ?_ (fun hHeld => ?_)
           ·exact hgw9
           clear hKc Kc
           try simp only [Act.put, List.getElem_toArray, List.getElem_cons_succ, List.getElem_cons_zero, List.setIfInBounds_toArray, List.set_cons_zero, List.set_cons_succ]
           refine wpAnyH_done (by kernel_rfl) ?_ _
           clear hz1 hz2 hz3 hz4 hj1 hj2 hj3 hj4 hy3 hy4
           go_wp2
           go_roundw
           case rel => exact ⟨k + 1, _, by go_num, by omega, hgw9, hX9, hO9⟩
           case measure => simp [intOf]; omega
        ·have hke : k = L'.length := by omega
         have hOf : OwnV w.heap.size 95 wr mv (L'.map fun u => uV (mskU P u)) := by
          rw [List.take_of_length_le (by omega)] at hO
          exact OwnV.weak hO (by have := hbM; have := hbw; have := HZ.out.2.2.2.1.size; omega)
         have hgMr : Ext wM wr := grown_own HZ.out.2.2.2.1 hg (fun b hb hlt => by cases hb; omega)
         have hfin : LatAt w.heap.size P wr wM.heap.size (.pointer (some ⟨pb, po, none⟩)) L' := ⟨by omega, _, _, hX, hLr.o.weak (by omega), hOf⟩
         have HFN := Lib.hid (And.intro hfin (grown_trans hg0 (grown_trans hgM hgMr)))
         have hnl : ¬ (k : Int) < L'.length := by omega
         clear hfin hgMr hOf hO hLr hR3 hX hg hke hlt hk
         go_wp2
         refine bodyPost_ret (v := .tuple #[.pointer (some ⟨wM.heap.size, 0, none⟩), .int .i64 0]) (by simp [results, Tryz.results81, go_sem]) rfl ?_
         exact ⟨_, rfl, HFN.out.2, some ⟨wM.heap.size, 0, none⟩, by rw [HC0.out], fun h => absurd HC0.out h, fun _ => by first | exact ⟨wM.heap.size, L', rfl, HZ.out.1, HFN.out.1⟩ | exact ⟨wM.heap.size, rfl, L', HZ.out.1, HFN.out.1⟩⟩
       -->C
     -->B
   -->A
end Go.Proofs.YtdklekdpdbjfiaaGreat

/- SubgroupClasses on both sides. -/
namespace Go.Proofs.YtdklekdpdbjfiaaGreat
open Go.RowKit
open Classical in
noncomputable def clsV (P : Pr) : ClsSt := if latC P = 0 ∧ ∃ L, LatL P L then clS P (latL P) (latL P).length else ⟨[], [], []⟩
noncomputable def clsF (P : Pr) : List (List (List Int)) := (clsV P).firsts
noncomputable def clsZ (P : Pr) : List Int := natI (clsV P).sizes
theorem cls_ok {P : Pr} {L : List (List (List Int))} (h : latC P = 0) (hL : LatL P L) : clsF P = (clS P L L.length).firsts ∧ clsZ P = natI (clS P L L.length).sizes := by
 have e : clsV P = clS P L L.length := by unfold clsV; rw [if_pos ⟨h, L, hL⟩, latL_eq hL]
 unfold clsF clsZ; rw [e]; exact ⟨rfl, rfl⟩
theorem cls_bd (P : Pr) : (clsF P).length ≤ 17408 ∧ (clsZ P).length = (clsF P).length ∧ ∀ u ∈ clsF P, u.length ≤ 6 ∧ ∀ x ∈ u, x.length ≤ 6 := by
 by_cases h : latC P = 0 ∧ ∃ L, LatL P L
 ·obtain ⟨hc, L, hL⟩ := h
  have G := grp_of_r (latC_zero hc).1
  rw [(cls_ok hc hL).1, (cls_ok hc hL).2]
  have h1 := clS_len P L L.length
  have h2 := G.lat_len (latC_zero hc).2 hL
  exact ⟨by omega, by rw [natI_len]; omega, fun u hu => G.lat_row hL u (clS_mem P (Nat.le_refl _) u hu)⟩
 ·have e : clsV P = ⟨[], [], []⟩ := by unfold clsV; rw [if_neg h]
  unfold clsF clsZ; rw [e]; simp [natI]
theorem SlOA.weak {α : Type} [Inhabited α] {El : (Nat → Prop) → World → Value → α → Prop} {E B B' : Nat} {A : Nat → Prop} {w : World} {v : Value} {xs : List α} (h : SlOA El E B A w v xs) (hb : B' ≤ B) : SlOA El E B' A w v xs := by
 obtain ⟨vs, G, h1, h2, h3, h4, h5, h6, h7⟩ := h
 exact ⟨vs, G, h1, h2.weak hb, fun i k hi hk => by obtain ⟨a, b, c⟩ := h3 i k hi hk; exact ⟨by omega, b, c⟩, h4, h5, h6, h7⟩
theorem SlOA.toD {α : Type} [Inhabited α] {El : (Nat → Prop) → World → Value → α → Prop} {E B : Nat} {A : Nat → Prop} {w : World} {v : Value} {xs : List α} (h : SlOA El E B A w v xs) (hl : xs.length ≤ 9223372036854775807) : SlD El (fun k => B ≤ k ∧ ¬ A k) w v xs := by
 obtain ⟨vs, G, hvl, hO, hG, hd, hE, hr, hr2⟩ := h
 refine ⟨G, fun k => (B ≤ k ∧ ¬ A k) ∧ v.ownBlock = some k, fun k hk => hk.1, fun i k hi hk => ⟨⟨(hG i k hi hk).1, hr i k hi hk⟩, fun h => (hG i k hi hk).2.1 h.2⟩, hd, ?_⟩
 rcases hO.form with ⟨rfl, rfl⟩ | ⟨g, cap, rfl, hnc, hBg, hgs⟩
 ·have : xs.length = 0 := by simpa using hvl.symm
  exact ⟨none, 0, by rw [this], ⟨by omega, by omega, fun _ => rfl⟩, fun i hi => by omega⟩
 ·refine ⟨_, cap, by rw [hvl], ⟨by omega, hl, fun h => by cases h⟩, fun i hi => ⟨g, 0, gt vs i, rfl, ⟨⟨hBg, hr2 g rfl⟩, rfl⟩, hgs, ?_, hE i hi⟩⟩
  rw [Nat.zero_add]; exact hO.cell i (by omega)
end Go.Proofs.YtdklekdpdbjfiaaGreat

/- The laws' measure of an argument: laws.szInt64S, szInt64SS, szInt64SSS, szPresentation. -/
namespace Go.Proofs.YtdklekdpdbjfiaaGreat
open Go.RowKit
def SzR (L : Int) (n : Nat) (v : Value) : Prop := ((n : Int) ≤ L ∧ v = .int .i64 (L - n)) ∨ (L < n ∧ v = .int .i64 (-1))
set_option maxHeartbeats 400000 in
theorem szInt64S_ok (v : Value) (l : List Int) (L : Int) (w : World) (S : Nat → Prop) (h : Ints S w v l) (hL : 0 ≤ L ∧ L ≤ 1048576) :
  Calls Tryz.prog 57 #[v, .int .i64 L] w (Ret w fun _ r => SzR L l.length r) := by
 obtain ⟨a, cap, rfl, _, hlen⟩ := h.shape
 have hwr : IntKind.i64.wrap (L - (l.length : Int)) = L - l.length := IntWalk.i64_in _ (by omega)
 by_cases hc : (l.length : Int) ≤ L
 ·have h0 : ¬ (L - (l.length : Int) < 0) := by omega
  have h1 : 0 ≤ L - (l.length : Int) := by omega
  go_enter Tryz.func57, Tryz.ntmps57
  go_wp2
  go_ret
  exact ⟨_, rfl, Ext.refl _, .inl ⟨hc, rfl⟩⟩
 ·have h0 : L - (l.length : Int) < 0 := by omega
  go_enter Tryz.func57, Tryz.ntmps57
  go_wp2
  go_ret
  exact ⟨_, rfl, Ext.refl _, .inr ⟨by omega, rfl⟩⟩
-- rows
set_option maxHeartbeats 1000000 in
theorem szInt64SS_ok (v : Value) (xs : List (List Int)) (L : Int) (w : World) (S : Nat → Prop) (h : Rows2 S w v xs) (hL : 0 ≤ L ∧ L ≤ 1048576) :
  Calls Tryz.prog 51 #[v, .int .i64 L] w (Ret w fun _ r => SzR L (size2 xs) r) := by
 obtain ⟨a, cap, rfl, _, hlen⟩ := Sl.shape h
 have hwr : IntKind.i64.wrap (L - (xs.length : Int)) = L - xs.length := IntWalk.i64_in _ (by omega)
 by_cases hc : (xs.length : Int) ≤ L
 ·have h0 : ¬ (L - (xs.length : Int) < 0) := by omega
  have h1 : 0 ≤ L - (xs.length : Int) := by omega
  go_enter Tryz.func51, Tryz.ntmps51
  go_wp2
  clear hwr h0 h1
  go_loopw [1, 5] (fun lv iv wr => ∃ k : Nat, iv = .int .i64 k ∧ lv = .int .i64 (L - xs.length - szTo List.length xs k) ∧ k ≤ xs.length ∧ Ext w wr ∧ 0 ≤ L - xs.length - szTo List.length xs k) (fun _ iv _ => xs.length - (intOf iv).toNat)
  case atStart => exact ⟨0, rfl, by simp [szTo], by omega, Ext.refl _, by simp [szTo]; omega⟩
  case round =>
   obtain ⟨k, rfl, rfl, hk, hg, hp⟩ := hrel
   by_cases hlt : k < xs.length
   ·obtain ⟨b, off, a2, cap2, rfl, _, _, hc2, hi2⟩ := Rows2.at ((Rows2.ext h hg)) k hlt
    have hm := szTo_mono List.length xs (show k + 1 ≤ xs.length by omega)
    have hsz : L - xs.length - szTo List.length xs k ≤ 1048576 := by omega
    have HH := Lib.hid (And.intro hm hsz); clear hm hsz
    go_wp2_with fail
    refine Calls.mono (szInt64S_ok _ _ (L - xs.length - szTo List.length xs k) wr S hi2 ⟨hp, HH.out.2⟩) ?_
    rintro eA wA ⟨vA, rfl, hgA, ⟨hA, rfl⟩ | ⟨hA, rfl⟩⟩
    ·have h0 : ¬ (L - xs.length - szTo List.length xs k - (List.length (gt xs k) : Nat) < 0) := by omega
     have h1 : 0 ≤ L - xs.length - szTo List.length xs k - (List.length (gt xs k) : Nat) := by omega
     clear hc2 hi2 hA
     go_wp2
     go_roundw
     case rel => exact ⟨k + 1, by go_num, by simp [szTo]; omega, by omega, grown_trans hg hgA, by simp [szTo]; omega⟩
     case measure => simp [intOf]; omega
    ·clear hc2 hi2
     go_wp2
     go_ret
     exact ⟨_, rfl, grown_trans hg hgA, .inr ⟨by
      have h3 := HH.out.1
      simp only [szTo] at h3
      unfold size2; omega, rfl⟩⟩
   ·have hke : k = xs.length := by omega
    subst hke
    go_wp2
    go_ret
    exact ⟨_, rfl, hg, .inl ⟨by unfold size2; omega, congrArg (Value.int .i64) (by unfold size2; omega)⟩⟩
 ·have h0 : L - (xs.length : Int) < 0 := by omega
  go_enter Tryz.func51, Tryz.ntmps51
  go_wp2
  go_ret
  exact ⟨_, rfl, Ext.refl _, .inr ⟨by unfold size2; omega, rfl⟩⟩
set_option maxHeartbeats 1000000 in
theorem szInt64SSS_ok (v : Value) (xs : List (List (List Int))) (L : Int) (w : World) (S : Nat → Prop) (h : Rows3 S w v xs) (hL : 0 ≤ L ∧ L ≤ 1048576) :
  Calls Tryz.prog 16 #[v, .int .i64 L] w (Ret w fun _ r => SzR L (size3 xs) r) := by
 obtain ⟨a, cap, rfl, _, hlen⟩ := Sl.shape h
 have hwr : IntKind.i64.wrap (L - (xs.length : Int)) = L - xs.length := IntWalk.i64_in _ (by omega)
 by_cases hc : (xs.length : Int) ≤ L
 ·have h0 : ¬ (L - (xs.length : Int) < 0) := by omega
  have h1 : 0 ≤ L - (xs.length : Int) := by omega
  go_enter Tryz.func16, Tryz.ntmps16
  go_wp2
  clear hwr h0 h1
  go_loopw [1, 5] (fun lv iv wr => ∃ k : Nat, iv = .int .i64 k ∧ lv = .int .i64 (L - xs.length - szTo size2 xs k) ∧ k ≤ xs.length ∧ Ext w wr ∧ 0 ≤ L - xs.length - szTo size2 xs k) (fun _ iv _ => xs.length - (intOf iv).toNat)
  case atStart => exact ⟨0, rfl, by simp [szTo], by omega, Ext.refl _, by simp [szTo]; omega⟩
  case round =>
   obtain ⟨k, rfl, rfl, hk, hg, hp⟩ := hrel
   by_cases hlt : k < xs.length
   ·obtain ⟨b, off, a2, cap2, rfl, _, _, hc2, hi2⟩ := Rows3.at ((Rows3.ext h hg)) k hlt
    have hm := szTo_mono size2 xs (show k + 1 ≤ xs.length by omega)
    have hsz : L - xs.length - szTo size2 xs k ≤ 1048576 := by omega
    have HH := Lib.hid (And.intro hm hsz); clear hm hsz
    go_wp2_with fail
    refine Calls.mono (szInt64SS_ok _ _ (L - xs.length - szTo size2 xs k) wr S hi2 ⟨hp, HH.out.2⟩) ?_
    rintro eA wA ⟨vA, rfl, hgA, ⟨hA, rfl⟩ | ⟨hA, rfl⟩⟩
    ·have h0 : ¬ (L - xs.length - szTo size2 xs k - (size2 (gt xs k) : Nat) < 0) := by omega
     have h1 : 0 ≤ L - xs.length - szTo size2 xs k - (size2 (gt xs k) : Nat) := by omega
     clear hc2 hi2 hA
     go_wp2
     go_roundw
     case rel => exact ⟨k + 1, by go_num, by simp [szTo]; omega, by omega, grown_trans hg hgA, by simp [szTo]; omega⟩
     case measure => simp [intOf]; omega
    ·clear hc2 hi2
     go_wp2
     go_ret
     exact ⟨_, rfl, grown_trans hg hgA, .inr ⟨by
      have h3 := HH.out.1
      simp only [szTo] at h3
      unfold size3; omega, rfl⟩⟩
   ·have hke : k = xs.length := by omega
    subst hke
    go_wp2
    go_ret
    exact ⟨_, rfl, hg, .inl ⟨by unfold size3; omega, congrArg (Value.int .i64) (by unfold size3; omega)⟩⟩
 ·have h0 : L - (xs.length : Int) < 0 := by omega
  go_enter Tryz.func16, Tryz.ntmps16
  go_wp2
  go_ret
  exact ⟨_, rfl, Ext.refl _, .inr ⟨by unfold size3; omega, rfl⟩⟩
set_option maxHeartbeats 1000000 in
theorem szPresentation_ok (v : Value) (P : Pr) (L : Int) (w : World) (S : Nat → Prop) (h : PresV S w v P) (hL : 0 ≤ L ∧ L ≤ 1048576) :
  Calls Tryz.prog 15 #[v, .int .i64 L] w (Ret w fun _ r => SzR L (sizeP P) r) := by
 obtain ⟨vo, vp, vc, rfl, h3⟩ := h
 have hp0 := PresP.box h3 26
 have hg0 : Ext w (w.alloc (.cells #[vo, vp, vc] 26)) := World.grownBy_alloc _ _ _
 go_enter Tryz.func15, Tryz.ntmps15
 go_wp2_with fail
 refine Calls.mono (szInt64S_ok _ _ L _ _ (h3.o.ext hg0) hL) ?_
 rintro eA wA ⟨vA, rfl, hgA, ⟨hA, rfl⟩ | ⟨hA, rfl⟩⟩
 ·obtain ⟨vo5, vp5, vc5, _, _, hb1, hb2A, hb3A, h3r⟩ := (hp0.ext hgA).at
  simp at hb2A hb3A
  have h0 : ¬ (L - (P.orders.length : Int) < 0) := by omega
  have h1 : 0 ≤ L - (P.orders.length : Int) := by omega
  clear hb1
  go_wp2_with fail
  refine Calls.mono (szInt64SS_ok _ _ (L - (P.orders.length : Int)) _ _ h3r.p (by omega)) ?_
  rintro eB wB ⟨vB, rfl, hgB, ⟨hB, rfl⟩ | ⟨hB, rfl⟩⟩
  ·have hb3B := hgB.cell hb3A (by simp)
   have h2 : ¬ (L - (P.orders.length : Int) - (size2 P.powers : Nat) < 0) := by omega
   have h4 : 0 ≤ L - (P.orders.length : Int) - (size2 P.powers : Nat) := by omega
   clear hb2A hb3A h0 h1
   go_wp2_with fail
   refine Calls.mono (szInt64SSS_ok _ _ (L - (P.orders.length : Int) - (size2 P.powers : Nat)) _ _ (Rows3.ext h3r.c hgB) (by omega)) ?_
   rintro eC wC ⟨vC, rfl, hgC, ⟨hC, rfl⟩ | ⟨hC, rfl⟩⟩
   ·have h5 : ¬ (L - (P.orders.length : Int) - (size2 P.powers : Nat) - (size3 P.conj : Nat) < 0) := by omega
    have h6 : 0 ≤ L - (P.orders.length : Int) - (size2 P.powers : Nat) - (size3 P.conj : Nat) := by omega
    clear hb3B h2 h4
    go_wp2
    go_ret
    exact ⟨_, rfl, grown_trans hg0 (grown_trans hgA (grown_trans hgB hgC)), .inl ⟨by unfold sizeP; omega, congrArg (Value.int .i64) (by unfold sizeP; omega)⟩⟩
   ·go_wp2
    go_ret
    exact ⟨_, rfl, grown_trans hg0 (grown_trans hgA (grown_trans hgB hgC)), .inr ⟨by unfold sizeP; omega, rfl⟩⟩
  ·go_wp2
   go_ret
   exact ⟨_, rfl, grown_trans hg0 (grown_trans hgA hgB), .inr ⟨by unfold sizeP; omega, rfl⟩⟩
 ·go_wp2
  go_ret
  exact ⟨_, rfl, grown_trans hg0 hgA, .inr ⟨by unfold sizeP; omega, rfl⟩⟩
end Go.Proofs.YtdklekdpdbjfiaaGreat

/- The laws' copies of an argument: laws.toInt64S, toInt64SS, toInt64SSS, toPresentation: each part in blocks of its own. -/
namespace Go.Proofs.YtdklekdpdbjfiaaGreat
open Go.RowKit
set_option maxHeartbeats 400000 in
theorem toInt64S_ok (v : Value) (l : List Int) (w : World) (S : Nat → Prop) (h : Ints S w v l) (hl : l.length ≤ 1048576) :
  Calls Tryz.prog 26 #[v] w (Ret w fun w' r => Own w.heap.size w' r l) := by
 obtain ⟨a, cap, rfl, _, hlen⟩ := h.shape
 go_enter Tryz.func26, Tryz.ntmps26
 go_wp2_with (at_make; refine wp_make_ints rfl _ _ rfl w.heap.size l.length w.heap.size rfl _ rfl rfl rfl (by omega) (Nat.le_refl _) ?_; intro w1 ho1 hg1 hlt1)
 rw [← cpTo_zero] at ho1
 go_loopw [4] (fun iv wr => ∃ k : Nat, iv = .int .i64 k ∧ k ≤ l.length ∧ Ext w wr ∧ Own w.heap.size wr (.slice (some ⟨w.heap.size, 0, none⟩) l.length l.length) (cpTo l 0 k)) (fun iv _ => l.length - (intOf iv).toNat)
 case atStart => exact ⟨0, rfl, by omega, hg1, ho1⟩
 case round =>
  obtain ⟨k, rfl, hk, hg, hO⟩ := hrel
  by_cases hlt : k < l.length
  ·obtain ⟨b, off, rfl, _, hbl, hc⟩ := Ints.at (h.ext hg) k hlt
   have hcw := hO.cell k (by rw [cpTo_len _ _ _ hk]; exact hlt)
   have hfr := hO.frozen k
   obtain ⟨hs1, hs2⟩ := hO.store k (gt l k)
   have hgn : Ext w (wr.setCell ⟨w.heap.size, k, none⟩ (.int .i64 (gt l k))) := grown_own hg hs2 (fun j hj hlt => by cases hj; omega)
   rw [cpTo_step l 0 k hlt] at hs1
   clear hs2
   go_wp2
   go_roundw
   case rel => exact ⟨k + 1, by go_num, by omega, hgn, hs1⟩
   case measure => simp [intOf]; omega
  ·have hke : k = l.length := by omega
   subst hke
   rw [cpTo_all] at hO
   go_wp2
   go_ret
   exact ⟨_, rfl, hg, hO⟩
-- rows
set_option maxHeartbeats 1000000 in
theorem toInt64SS_ok (v : Value) (xs : List (List Int)) (w : World) (S : Nat → Prop) (h : Rows2 S w v xs) (hl : size2 xs ≤ 1048576) :
  Calls Tryz.prog 53 #[v] w (Ret w fun w' r => SlO OwnIn 22 w.heap.size w' r xs) := by
 obtain ⟨a, cap, rfl, _, hlen⟩ := Sl.shape h
 have hlx : xs.length ≤ 1048576 := by unfold size2 at hl; omega
 have hsub : ∀ k, k < xs.length → List.length (gt xs k) ≤ 1048576 := fun k hk => by
  have := szTo_mono List.length xs (show k + 1 ≤ xs.length by omega)
  simp only [szTo] at this
  unfold size2 at hl; omega
 have HS := Lib.hid hsub; clear hsub hl
 go_enter Tryz.func53, Tryz.ntmps53
 go_wp2_with (at_make; refine wp_make_sl (El := OwnIn) 23 22 und_rows Tryz.infoRow (fun w => OwnIn.nil _ w) rfl _ _ rfl w.heap.size xs.length w.heap.size rfl _ rfl rfl rfl (by omega) (Nat.le_refl _) ?_; intro w1 ho1 hg1 hlt1)
 rw [← cpTo_zero] at ho1
 go_loopw [4] (fun iv wr => ∃ k : Nat, iv = .int .i64 k ∧ k ≤ xs.length ∧ Ext w wr ∧ SlO OwnIn 22 w.heap.size wr (.slice (some ⟨w.heap.size, 0, none⟩) xs.length xs.length) (cpTo xs [] k)) (fun iv _ => xs.length - (intOf iv).toNat)
 case atStart => exact ⟨0, rfl, by omega, hg1, ho1⟩
 case round =>
  obtain ⟨k, rfl, hk, hg, hO⟩ := hrel
  by_cases hlt : k < xs.length
  ·obtain ⟨b, off, a2, cap2, rfl, _, _, hc2, hi2⟩ := Rows2.at (Rows2.ext h hg) k hlt
   go_wp2_with fail
   refine Calls.mono (toInt64S_ok _ _ wr S hi2 (HS.out k hlt)) ?_
   rintro eA wA ⟨vA, rfl, hgA, hA⟩
   have hEl := OwnIn.of (F := From wr.heap.size) hA (by have := HS.out k hlt; omega) (fun j hj _ => hj)
   obtain ⟨aA, capA, rfl, _, _⟩ := hEl.ints.shape
   obtain ⟨⟨z, hcw⟩, hfr⟩ := (hO.ext rdOwn hgA).place k (by rw [cpTo_len _ _ _ hk]; exact hlt)
   obtain ⟨hs1, hs2⟩ := hO.store rdOwn hgA hEl k
   have hgn : Ext w (wA.setCell ⟨w.heap.size, k, none⟩ (.slice aA (gt xs k).length capA)) := grown_own (grown_trans hg hgA) hs2 (fun j hj hlt => by cases hj; omega)
   rw [cpTo_step xs [] k hlt] at hs1
   clear hs2 hc2 hi2 hA hEl hO
   go_wp2
   go_roundw
   case rel => exact ⟨k + 1, by go_num, by omega, hgn, hs1⟩
   case measure => simp [intOf]; omega
  ·have hke : k = xs.length := by omega
   subst hke
   rw [cpTo_all] at hO
   go_wp2
   go_ret
   exact ⟨_, rfl, hg, hO⟩
set_option maxHeartbeats 1000000 in
theorem toInt64SSS_ok (v : Value) (xs : List (List (List Int))) (w : World) (S : Nat → Prop) (h : Rows3 S w v xs) (hl : size3 xs ≤ 1048576) :
  Calls Tryz.prog 19 #[v] w (Ret w fun w' r => SlO (fun F w u (x : List (List Int)) => RowsW F w u x) 23 w.heap.size w' r xs) := by
 obtain ⟨a, cap, rfl, _, hlen⟩ := Sl.shape h
 have hlx : xs.length ≤ 1048576 := by unfold size3 at hl; omega
 have hsub : ∀ k, k < xs.length → size2 (gt xs k) ≤ 1048576 := fun k hk => by
  have := szTo_mono size2 xs (show k + 1 ≤ xs.length by omega)
  simp only [szTo] at this
  unfold size3 at hl; omega
 have HS := Lib.hid hsub; clear hsub hl
 go_enter Tryz.func19, Tryz.ntmps19
 go_wp2_with (at_make; refine wp_make_sl (El := (fun F w u (x : List (List Int)) => RowsW F w u x)) 24 23 und_rows3 Tryz.infoRows (fun w => SlD.nil _ _ w) rfl _ _ rfl w.heap.size xs.length w.heap.size rfl _ rfl rfl rfl (by omega) (Nat.le_refl _) ?_; intro w1 ho1 hg1 hlt1)
 rw [← cpTo_zero] at ho1
 go_loopw [4] (fun iv wr => ∃ k : Nat, iv = .int .i64 k ∧ k ≤ xs.length ∧ Ext w wr ∧ SlO (fun F w u (x : List (List Int)) => RowsW F w u x) 23 w.heap.size wr (.slice (some ⟨w.heap.size, 0, none⟩) xs.length xs.length) (cpTo xs [] k)) (fun iv _ => xs.length - (intOf iv).toNat)
 case atStart => exact ⟨0, rfl, by omega, hg1, ho1⟩
 case round =>
  obtain ⟨k, rfl, hk, hg, hO⟩ := hrel
  by_cases hlt : k < xs.length
  ·obtain ⟨b, off, a2, cap2, rfl, _, _, hc2, hi2⟩ := Rows3.at (Rows3.ext h hg) k hlt
   go_wp2_with fail
   refine Calls.mono (toInt64SS_ok _ _ wr S hi2 (HS.out k hlt)) ?_
   rintro eA wA ⟨vA, rfl, hgA, hA⟩
   have hEl := SlO.toD hA (by have := HS.out k hlt; unfold size2 at this; omega)
   obtain ⟨aA, capA, rfl, _, _⟩ := SlD.shape hEl
   obtain ⟨⟨z, hcw⟩, hfr⟩ := (hO.ext rdRowsW hgA).place k (by rw [cpTo_len _ _ _ hk]; exact hlt)
   obtain ⟨hs1, hs2⟩ := hO.store rdRowsW hgA hEl k
   have hgn : Ext w (wA.setCell ⟨w.heap.size, k, none⟩ (.slice aA (gt xs k).length capA)) := grown_own (grown_trans hg hgA) hs2 (fun j hj hlt => by cases hj; omega)
   rw [cpTo_step xs [] k hlt] at hs1
   clear hs2 hc2 hi2 hA hEl hO
   go_wp2
   go_roundw
   case rel => exact ⟨k + 1, by go_num, by omega, hgn, hs1⟩
   case measure => simp [intOf]; omega
  ·have hke : k = xs.length := by omega
   subst hke
   rw [cpTo_all] at hO
   go_wp2
   go_ret
   exact ⟨_, rfl, hg, hO⟩
end Go.Proofs.YtdklekdpdbjfiaaGreat

/- laws.toPresentation: a copy of a presentation, each part in blocks of its own. -/
namespace Go.Proofs.YtdklekdpdbjfiaaGreat
open Go.RowKit
set_option maxRecDepth 100000 in
set_option maxHeartbeats 4000000 in
theorem toPresentation_ok (v : Value) (P : Pr) (w : World) (S : Nat → Prop) (h : PresV S w v P) (hl : sizeP P ≤ 1048576) :
  Calls Tryz.prog 18 #[v] w (Ret w fun w' r => PresW (From w.heap.size) w' r P) := by
 obtain ⟨vo, vp, vc, rfl, h3⟩ := h
 have hso : P.orders.length ≤ 1048576 := by unfold sizeP at hl; omega
 have hsp : size2 P.powers ≤ 1048576 := by unfold sizeP at hl; omega
 have hsc : size3 P.conj ≤ 1048576 := by unfold sizeP at hl; omega
 have HS := Lib.hid (And.intro hso (And.intro hsp hsc)); clear hso hsp hsc hl
 go_enter Tryz.func18, Tryz.ntmps18
 have hg0 : Ext w (((w.alloc (.cells #[vo, vp, vc] 26)).alloc (.cells #[.slice none 0 0, .slice none 0 0, .slice none 0 0] 31)).alloc (.cells #[.slice none 0 0, .slice none 0 0, .slice none 0 0] 31)) :=
  grown_trans (World.grownBy_alloc _ _ _) (grown_trans (World.grownBy_alloc _ _ _) (World.grownBy_alloc _ _ _))
 have hA0 : Box3 (((w.alloc (.cells #[vo, vp, vc] 26)).alloc (.cells #[.slice none 0 0, .slice none 0 0, .slice none 0 0] 31)).alloc (.cells #[.slice none 0 0, .slice none 0 0, .slice none 0 0] 31)) w.heap.size vo vp vc :=
  ((Box3.made w _ vo vp vc).ext (World.grownBy_alloc _ _ _)).ext (World.grownBy_alloc _ _ _)
 have hR0 := (Box3.made (w.alloc (.cells #[vo, vp, vc] 26)) 31 (.slice none 0 0) (.slice none 0 0) (.slice none 0 0)).ext (World.grownBy_alloc _ (.cells #[.slice none 0 0, .slice none 0 0, .slice none 0 0] 31) _)
 have hO0 := Box3.made ((w.alloc (.cells #[vo, vp, vc] 26)).alloc (.cells #[.slice none 0 0, .slice none 0 0, .slice none 0 0] 31)) 31 (.slice none 0 0) (.slice none 0 0) (.slice none 0 0)
 have hs1 : (w.alloc (.cells #[vo, vp, vc] 26)).heap.size = w.heap.size + 1 := by simp
 have hs2 : ((w.alloc (.cells #[vo, vp, vc] 26)).alloc (.cells #[.slice none 0 0, .slice none 0 0, .slice none 0 0] 31)).heap.size = w.heap.size + 1 + 1 := by simp
 rw [hs1] at hR0
 rw [hs2] at hO0
 have HB := Lib.hid (And.intro hA0 (And.intro hR0 hO0)); clear hA0 hR0 hO0 hs1 hs2
 go_wp2_with fail
 generalize hw0 : ((w.alloc (.cells #[vo, vp, vc] 26)).alloc (.cells #[.slice none 0 0, .slice none 0 0, .slice none 0 0] 31)).alloc (.cells #[.slice none 0 0, .slice none 0 0, .slice none 0 0] 31) = w0 at *
 clear hw0
 have hsz0 : w.heap.size + 1 + 1 < w0.heap.size := HB.out.2.2.1
 refine Calls.mono (toInt64S_ok _ _ _ _ (h3.o.ext hg0) HS.out.1) ?_
 rintro eA wA ⟨vA, rfl, hgA, hA⟩
 have hAi := hA.ints (by have := HS.out.1; omega)
 obtain ⟨aA, capA, rfl, _, _⟩ := hAi.shape
 clear hAi
 have a1 := (HB.out.1.ext hgA)
 have r1 := (HB.out.2.1.ext hgA)
 have o1 := (HB.out.2.2.ext hgA)
 have hgwA := grown_trans hg0 hgA
 have hgw1 := ext_store hgwA (show w.heap.size ≤ w.heap.size + 1 + 1 by omega) 0 (.slice aA P.orders.length capA)
 have hlA := hgA.size
 have o2 := (o1.put (.slice aA P.orders.length capA)).1
 have a2 := a1.far (c := w.heap.size + 1 + 1) (j := 0) (v := .slice aA P.orders.length capA) (by omega)
 have r2 := r1.far (c := w.heap.size + 1 + 1) (j := 0) (v := .slice aA P.orders.length capA) (by omega)
 have hA2 : OwnIn (fun k => w0.heap.size ≤ k ∧ k < wA.heap.size) (wA.setCell ⟨w.heap.size + 1 + 1, 0, none⟩ (.slice aA P.orders.length capA)) (.slice aA P.orders.length capA) P.orders :=
  rdOwn.mono (OwnIn.of (F := fun k => w0.heap.size ≤ k ∧ k < wA.heap.size) hA (by have := HS.out.1; omega) (fun k h1 h2 => ⟨h1, h2⟩)) (fun k hk hlt => ⟨hk, by simpa [World.setCell] using hlt, Below.heap_setCell _ _ _ _ (by have := hk.1; simp; omega)⟩)
 have HW := Lib.hid (And.intro a2 (And.intro r2 (And.intro o2 hA2))); clear a2 r2 o2 hA2 hA
 obtain ⟨_, ca0, ca1, ca2, _⟩ := a1
 obtain ⟨_, co0, co1, co2, cof⟩ := o1
 clear r1
 go_wp2_with fail
 clear ca0 ca1 ca2 co0 co1 co2 cof
 have hszs : (wA.setCell ⟨w.heap.size + 1 + 1, 0, none⟩ (.slice aA P.orders.length capA)).heap.size = wA.heap.size := by simp [World.setCell]
 generalize wA.setCell ⟨w.heap.size + 1 + 1, 0, none⟩ (.slice aA P.orders.length capA) = w1 at *
 have HSZ := Lib.hid hszs; clear hszs
 refine Calls.mono (toInt64SS_ok _ _ _ _ (Rows2.ext h3.p hgw1) HS.out.2.1) ?_
 rintro eB wB ⟨vB, rfl, hgB, hB⟩
 have hlpp : P.powers.length ≤ 1048576 := by have := HS.out.2.1; unfold size2 at this; omega
 have hBd := SlO.toD hB (by omega)
 obtain ⟨aB, capB, rfl, _, _⟩ := SlD.shape hBd
 have a1 := (HW.out.1.ext hgB)
 have r1 := (HW.out.2.1.ext hgB)
 have o1 := (HW.out.2.2.1.ext hgB)
 have hgwB := grown_trans hgw1 hgB
 have hgw2 := ext_store hgwB (show w.heap.size ≤ w.heap.size + 1 + 1 by omega) 1 (.slice aB P.powers.length capB)
 have hlB := hgB.size
 have hsA := HSZ.out
 have o2 := (o1.put (.slice aB P.powers.length capB)).2.1
 have a2 := a1.far (c := w.heap.size + 1 + 1) (j := 1) (v := .slice aB P.powers.length capB) (by omega)
 have r2 := r1.far (c := w.heap.size + 1 + 1) (j := 1) (v := .slice aB P.powers.length capB) (by omega)
 have hA2 : OwnIn (fun k => w0.heap.size ≤ k ∧ k < wA.heap.size) (wB.setCell ⟨w.heap.size + 1 + 1, 1, none⟩ (.slice aB P.powers.length capB)) (.slice aA P.orders.length capA) P.orders :=
  rdOwn.mono HW.out.2.2.2 (fun k hk hlt => ⟨hk, by simp [World.setCell]; omega, (Below.heap_setCell _ _ _ _ (by have := hk.1; simp; omega)).trans (hgB.block k hlt (by simp))⟩)
 have hB2 : RowsW (fun k => w1.heap.size ≤ k ∧ k < wB.heap.size) (wB.setCell ⟨w.heap.size + 1 + 1, 1, none⟩ (.slice aB P.powers.length capB)) (.slice aB P.powers.length capB) P.powers :=
  rdRowsW.mono hBd (fun k hk hlt => ⟨⟨hk, hlt⟩, by simpa [World.setCell] using hlt, Below.heap_setCell _ _ _ _ (by have hk : w1.heap.size ≤ k := hk; simp; omega)⟩)
 have HW2 := Lib.hid (And.intro a2 (And.intro r2 (And.intro o2 (And.intro hA2 hB2)))); clear a2 r2 o2 hA2 hB2 hB hBd HW
 obtain ⟨_, ca0, ca1, ca2, _⟩ := a1
 obtain ⟨_, co0, co1, co2, cof⟩ := o1
 clear r1
 go_wp2_with fail
 clear ca0 ca1 ca2 co0 co1 co2 cof
 have hszs : (wB.setCell ⟨w.heap.size + 1 + 1, 1, none⟩ (.slice aB P.powers.length capB)).heap.size = wB.heap.size := by simp [World.setCell]
 generalize wB.setCell ⟨w.heap.size + 1 + 1, 1, none⟩ (.slice aB P.powers.length capB) = w2 at *
 have HSZ2 := Lib.hid hszs; clear hszs
 refine Calls.mono (toInt64SSS_ok _ _ _ _ (Rows3.ext h3.c hgw2) HS.out.2.2) ?_
 rintro eC wC ⟨vC, rfl, hgC, hC⟩
 have hlcc : P.conj.length ≤ 1048576 := by have := HS.out.2.2; unfold size3 at this; omega
 have hCd := SlO.toD hC (by omega)
 obtain ⟨aC, capC, rfl, _, _⟩ := SlD.shape hCd
 have a1 := (HW2.out.1.ext hgC)
 have r1 := (HW2.out.2.1.ext hgC)
 have o1 := (HW2.out.2.2.1.ext hgC)
 have hgwC := grown_trans hgw2 hgC
 have hlC := hgC.size
 have hsB := HSZ2.out
 have hg3 := ext_store hgwC (show w.heap.size ≤ w.heap.size + 1 + 1 by omega) 2 (.slice aC P.conj.length capC)
 have hA2 := HW2.out.2.2.2.1
 have hB2 := HW2.out.2.2.2.2
 clear hC HW2
 obtain ⟨_, ca0, ca1, ca2, _⟩ := a1
 obtain ⟨_, co0, co1, co2, cof⟩ := o1
 obtain ⟨_, cr0, cr1, cr2, crf⟩ := r1
 have HX := Lib.hid (And.intro hA2 (And.intro hB2 hCd)); clear hA2 hB2 hCd
 go_wp2
 refine bodyPost_ret (v := .agg #[.slice aA P.orders.length capA, .slice aB P.powers.length capB, .slice aC P.conj.length capC]) (by simp [results, Tryz.results18, go_sem, cr0, cr1, cr2]) rfl ⟨_, rfl, ext_store (ext_store (ext_store hg3 (by omega) _ _) (by omega) _ _) (by omega) _ _, ?_⟩
 have hblk : ∀ k, w.heap.size + 1 + 1 < k → ((((wC.setCell ⟨w.heap.size + 1 + 1, 2, none⟩ (.slice aC P.conj.length capC)).setCell ⟨w.heap.size + 1, 0, none⟩ (.slice aA P.orders.length capA)).setCell ⟨w.heap.size + 1, 1, none⟩ (.slice aB P.powers.length capB)).setCell ⟨w.heap.size + 1, 2, none⟩ (.slice aC P.conj.length capC)).heap[k]? = wC.heap[k]? := fun k hk => by
  rw [Below.heap_setCell _ _ _ _ (by simp; omega), Below.heap_setCell _ _ _ _ (by simp; omega), Below.heap_setCell _ _ _ _ (by simp; omega), Below.heap_setCell _ _ _ _ (by simp; omega)]
 have hsz : ((((wC.setCell ⟨w.heap.size + 1 + 1, 2, none⟩ (.slice aC P.conj.length capC)).setCell ⟨w.heap.size + 1, 0, none⟩ (.slice aA P.orders.length capA)).setCell ⟨w.heap.size + 1, 1, none⟩ (.slice aB P.powers.length capB)).setCell ⟨w.heap.size + 1, 2, none⟩ (.slice aC P.conj.length capC)).heap.size = wC.heap.size := by simp [World.setCell]
 have hsz3 := HSZ.out
 have hsz4 := HSZ2.out
 refine ⟨_, _, _, fun k => w0.heap.size ≤ k ∧ k < wA.heap.size, fun k => w1.heap.size ≤ k ∧ k < wB.heap.size, fun k => w2.heap.size ≤ k, rfl, rdOwn.mono HX.out.1 (fun k hk hlt => ⟨hk, by rw [hsz]; omega, (hblk k (by omega)).trans (hgC.block k hlt (by simp))⟩),
  rdRowsW.mono HX.out.2.1 (fun k hk hlt => ⟨hk, by rw [hsz]; omega, (hblk k (by omega)).trans (hgC.block k hlt (by simp))⟩), SlD.mono rdRowsW HX.out.2.2 (fun k hk hlt => ⟨hk, by rw [hsz]; exact hlt, hblk k (by have hk : w2.heap.size ≤ k := hk; omega)⟩), fun k hk => ?_, fun k hk => ?_, fun k hk => ?_⟩
 ·exact ⟨by show w.heap.size ≤ k; omega, by omega, by omega⟩
 ·exact ⟨by show w.heap.size ≤ k; omega, by omega⟩
 ·show w.heap.size ≤ k; omega
end Go.Proofs.YtdklekdpdbjfiaaGreat

/- laws.eqInt64S. -/
namespace Go.Proofs.YtdklekdpdbjfiaaGreat
open Go.RowKit
set_option maxHeartbeats 400000 in
theorem eqInt64S_ok (v1 v2 : Value) (l1 l2 : List Int) (w : World) (S1 S2 : Nat → Prop) (h1 : Ints S1 w v1 l1) (h2 : Ints S2 w v2 l2) :
  Calls Tryz.prog 29 #[v1, v2] w (Ret w fun _ v => v = .bool (eqB l1 l2)) := by
 obtain ⟨a, cap, rfl, _, _⟩ := h1.shape
 obtain ⟨a2, cap2, rfl, _, _⟩ := h2.shape
 by_cases hl : l1.length = l2.length
 ·have hd : ((l1.length : Int) != (l2.length : Int)) = false := by simp [hl]
  have hl1 : l1.length ≤ l2.length ∧ l2.length ≤ l1.length := by omega
  have HL := Lib.hid hl; clear hl
  go_enter Tryz.func29, Tryz.ntmps29
  go_wp2
  go_loopw [5] (fun i wr => ∃ k : Nat, i = .int .i64 k ∧ k ≤ l1.length ∧ Ext w wr ∧ ∀ i, i < k → gt l1 i = gt l2 i) (fun i _ => l1.length - (intOf i).toNat)
  case atStart => exact ⟨0, rfl, by omega, Ext.refl _, fun i hi => by omega⟩
  case round =>
   obtain ⟨k, rfl, hk, hg, hz⟩ := hrel
   have HZ := Lib.hid hz; clear hz
   by_cases hlt : k < l1.length
   ·obtain ⟨b, off, rfl, _, _, hc⟩ := Ints.at (h1.ext hg) k hlt
    obtain ⟨b2, off2, rfl, _, _, hc2⟩ := Ints.at (h2.ext hg) k (by omega)
    by_cases hx : gt l1 k = gt l2 k
    ·have hb : (gt l1 k != gt l2 k) = false := by simp [hx]
     have hx2 := Lib.hid hx; clear hx
     go_wp2
     go_quiet (fail)
     go_wp2
     go_roundw
     case rel => exact ⟨k + 1, by go_num, by omega, grown_trans hg (grown_drewN _ _ _), fun i hi => by
      rcases Nat.lt_or_ge i k with h1 | h1
      ·exact HZ.out i h1
      ·have : i = k := by omega
       rw [this, hx2.out]⟩
     case measure => simp [intOf]; omega
    ·have hb : (gt l1 k != gt l2 k) = true := by simp [hx]
     have hx2 := Lib.hid hx; clear hx
     go_wp2
     go_quiet (fail)
     go_wp2
     go_ret
     exact ret_bool (grown_trans hg (grown_drewN _ _ _)) (by rw [eqB_false_at (hx := hx2.out)])
   ·go_wp2
    go_ret
    exact ret_bool hg (by rw [eqB_true.2 (ext_gt HL.out (fun i hi => HZ.out i (by omega)))])
 ·have hd : ((l1.length : Int) != (l2.length : Int)) = true := by simp; omega
  have HL := Lib.hid hl; clear hl
  go_enter Tryz.func29, Tryz.ntmps29
  go_wp2
  go_ret
  exact ret_bool (Ext.refl _) (by rw [eqB_false.2 (fun h => HL.out (by rw [h]))])
end Go.Proofs.YtdklekdpdbjfiaaGreat

/- The laws' comparisons: laws.eqInt64SS, eqInt64SSS, eqPresentation. -/
namespace Go.Proofs.YtdklekdpdbjfiaaGreat
open Go.RowKit
theorem Ints.extA {S : Nat → Prop} {w w' : World} {v : Value} {xs : List Int} (h : Ints S w v xs) (hg : Ext w w') : Ints Any w' v xs := Ints.sub (Ints.ext h hg) (fun _ _ _ => trivial)
theorem Rows2.extA {S : Nat → Prop} {w w' : World} {v : Value} {xs : List (List Int)} (h : Rows2 S w v xs) (hg : Ext w w') : Rows2 Any w' v xs := Rows2.sub (Rows2.ext h hg) (fun _ _ _ => trivial)
set_option maxRecDepth 100000 in
set_option maxHeartbeats 2000000 in
theorem eqInt64SS_ok (v1 v2 : Value) (l1 l2 : List (List Int)) (w : World) (S1 S2 : Nat → Prop) (h1 : Rows2 S1 w v1 l1) (h2 : Rows2 S2 w v2 l2) :
  Calls Tryz.prog 28 #[v1, v2] w (Ret w fun _ v => v = .bool (eqB l1 l2)) := by
 obtain ⟨a, cap, rfl, _, _⟩ := Sl.shape h1
 obtain ⟨a2, cap2, rfl, _, _⟩ := Sl.shape h2
 by_cases hl : l1.length = l2.length
 ·have hd : ((l1.length : Int) != (l2.length : Int)) = false := by simp [hl]
  have hl1 : l1.length ≤ l2.length ∧ l2.length ≤ l1.length := by omega
  have HL := Lib.hid hl; clear hl
  go_enter Tryz.func28, Tryz.ntmps28
  go_wp2
  go_loopw [5] (fun i wr => ∃ k : Nat, i = .int .i64 k ∧ k ≤ l1.length ∧ Ext w wr ∧ ∀ i, i < k → gt l1 i = gt l2 i) (fun i _ => l1.length - (intOf i).toNat)
  case atStart => exact ⟨0, rfl, by omega, Ext.refl _, fun i hi => by omega⟩
  case round =>
   obtain ⟨k, rfl, hk, hg, hz⟩ := hrel
   have HZ := Lib.hid hz; clear hz
   by_cases hlt : k < l1.length
   ·obtain ⟨b, off, x1, c1, rfl, _, _, hc, hi1⟩ := Rows2.at (Rows2.ext h1 hg) k hlt
    obtain ⟨b2, off2, x2, c2, rfl, _, _, hc2, hi2⟩ := Rows2.at (Rows2.ext h2 hg) k (by omega)
    have e1 : ∀ w', Ext wr w' → w'.cell? ⟨b, off + k, none⟩ = some (.slice x1 (gt l1 k).length c1) := fun w' h => h.cell hc (by simp)
    have e2 : ∀ w', Ext wr w' → w'.cell? ⟨b2, off2 + k, none⟩ = some (.slice x2 (gt l2 k).length c2) := fun w' h => h.cell hc2 (by simp)
    clear hc hc2
    have hlt2 : k < l2.length := by omega
    go_wp2
    cases hx : eqB (gt l1 k) (gt l2 k) with
    | true =>
     have hx2 := Lib.hid hx
     go_region_held3 (fun w' => Ext wr w') (first | exact grown_drew _ _ | assumption)
      (first
       | (go_at_call 29; refine Calls.mono (Calls.rel (w0 := wr) (by assumption) (eqInt64S_ok _ _ _ _ _ Any Any ((Ints.extA hi1 (by assumption))) (Ints.extA hi2 (by assumption)))) ?_; rintro eA wA ⟨vA, rfl, hgA, hsA, rfl⟩))
     clear e1 e2
     go_wp2
     go_roundw
     case rel => exact ⟨k + 1, by go_num, by omega, grown_trans hg hgA, fun i hi => by
      rcases Nat.lt_or_ge i k with h1 | h1
      ·exact HZ.out i h1
      ·have : i = k := by omega
       rw [this]; exact eqB_true.1 hx2.out⟩
     case measure => simp [intOf]; omega
    | false =>
     have hx2 := Lib.hid hx
     go_region_held3 (fun w' => Ext wr w') (first | exact grown_drew _ _ | assumption)
      (first
       | (go_at_call 29; refine Calls.mono (Calls.rel (w0 := wr) (by assumption) (eqInt64S_ok _ _ _ _ _ Any Any (Ints.extA hi1 (by assumption)) (Ints.extA hi2 (by assumption)))) ?_; rintro eA wA ⟨vA, rfl, hgA, hsA, rfl⟩))
     clear e1 e2
     go_wp2
     go_ret
     exact ret_bool (grown_trans hg hgA) (by rw [eqB_false_at (hx := eqB_false.1 hx2.out)])
   ·go_wp2
    go_ret
    exact ret_bool hg (by rw [eqB_true.2 (ext_gt HL.out (fun i hi => HZ.out i (by omega)))])
 ·have hd : ((l1.length : Int) != (l2.length : Int)) = true := by simp; omega
  have HL := Lib.hid hl; clear hl
  go_enter Tryz.func28, Tryz.ntmps28
  go_wp2
  go_ret
  exact ret_bool (Ext.refl _) (by rw [eqB_false.2 (fun e => HL.out (by rw [e]))])
set_option maxRecDepth 100000 in
set_option maxHeartbeats 2000000 in
theorem eqInt64SSS_ok (v1 v2 : Value) (l1 l2 : List (List (List Int))) (w : World) (S1 S2 : Nat → Prop) (h1 : Rows3 S1 w v1 l1) (h2 : Rows3 S2 w v2 l2) :
  Calls Tryz.prog 22 #[v1, v2] w (Ret w fun _ v => v = .bool (eqB l1 l2)) := by
 obtain ⟨a, cap, rfl, _, _⟩ := Sl.shape h1
 obtain ⟨a2, cap2, rfl, _, _⟩ := Sl.shape h2
 by_cases hl : l1.length = l2.length
 ·have hd : ((l1.length : Int) != (l2.length : Int)) = false := by simp [hl]
  have hl1 : l1.length ≤ l2.length ∧ l2.length ≤ l1.length := by omega
  have HL := Lib.hid hl; clear hl
  go_enter Tryz.func22, Tryz.ntmps22
  go_wp2
  go_loopw [5] (fun i wr => ∃ k : Nat, i = .int .i64 k ∧ k ≤ l1.length ∧ Ext w wr ∧ ∀ i, i < k → gt l1 i = gt l2 i) (fun i _ => l1.length - (intOf i).toNat)
  case atStart => exact ⟨0, rfl, by omega, Ext.refl _, fun i hi => by omega⟩
  case round =>
   obtain ⟨k, rfl, hk, hg, hz⟩ := hrel
   have HZ := Lib.hid hz; clear hz
   by_cases hlt : k < l1.length
   ·obtain ⟨b, off, x1, c1, rfl, _, _, hc, hi1⟩ := Rows3.at (Rows3.ext h1 hg) k hlt
    obtain ⟨b2, off2, x2, c2, rfl, _, _, hc2, hi2⟩ := Rows3.at (Rows3.ext h2 hg) k (by omega)
    have e1 : ∀ w', Ext wr w' → w'.cell? ⟨b, off + k, none⟩ = some (.slice x1 (gt l1 k).length c1) := fun w' h => h.cell hc (by simp)
    have e2 : ∀ w', Ext wr w' → w'.cell? ⟨b2, off2 + k, none⟩ = some (.slice x2 (gt l2 k).length c2) := fun w' h => h.cell hc2 (by simp)
    clear hc hc2
    have hlt2 : k < l2.length := by omega
    go_wp2
    cases hx : eqB (gt l1 k) (gt l2 k) with
    | true =>
     have hx2 := Lib.hid hx
     go_region_held3 (fun w' => Ext wr w') (first | exact grown_drew _ _ | assumption)
      (first
       | (go_at_call 28; refine Calls.mono (Calls.rel (w0 := wr) (by assumption) (eqInt64SS_ok _ _ _ _ _ Any Any ((Rows2.extA hi1 (by assumption))) (Rows2.extA hi2 (by assumption)))) ?_; rintro eA wA ⟨vA, rfl, hgA, hsA, rfl⟩))
     clear e1 e2
     go_wp2
     go_roundw
     case rel => exact ⟨k + 1, by go_num, by omega, grown_trans hg hgA, fun i hi => by
      rcases Nat.lt_or_ge i k with h1 | h1
      ·exact HZ.out i h1
      ·have : i = k := by omega
       rw [this]; exact eqB_true.1 hx2.out⟩
     case measure => simp [intOf]; omega
    | false =>
     have hx2 := Lib.hid hx
     go_region_held3 (fun w' => Ext wr w') (first | exact grown_drew _ _ | assumption)
      (first
       | (go_at_call 28; refine Calls.mono (Calls.rel (w0 := wr) (by assumption) (eqInt64SS_ok _ _ _ _ _ Any Any (Rows2.extA hi1 (by assumption)) (Rows2.extA hi2 (by assumption)))) ?_; rintro eA wA ⟨vA, rfl, hgA, hsA, rfl⟩))
     clear e1 e2
     go_wp2
     go_ret
     exact ret_bool (grown_trans hg hgA) (by rw [eqB_false_at (hx := eqB_false.1 hx2.out)])
   ·go_wp2
    go_ret
    exact ret_bool hg (by rw [eqB_true.2 (ext_gt HL.out (fun i hi => HZ.out i (by omega)))])
 ·have hd : ((l1.length : Int) != (l2.length : Int)) = true := by simp; omega
  have HL := Lib.hid hl; clear hl
  go_enter Tryz.func22, Tryz.ntmps22
  go_wp2
  go_ret
  exact ret_bool (Ext.refl _) (by rw [eqB_false.2 (fun e => HL.out (by rw [e]))])
set_option maxRecDepth 100000 in
set_option maxHeartbeats 2000000 in
theorem eqPresentation_ok (v1 v2 : Value) (P : Pr) (w : World) (S1 S2 : Nat → Prop) (h1 : PresV S1 w v1 P) (h2 : PresV S2 w v2 P) :
  Calls Tryz.prog 21 #[v1, v2] w (Ret w fun _ v => v = .bool true) := by
 obtain ⟨vo, vp, vc, rfl, h3⟩ := h1
 obtain ⟨uo, up, uc, rfl, k3⟩ := h2
 have hg0 : Ext w ((w.alloc (.cells #[vo, vp, vc] 31)).alloc (.cells #[uo, up, uc] 31)) := grown_trans (World.grownBy_alloc _ _ _) (World.grownBy_alloc _ _ _)
 have hs1 : (w.alloc (.cells #[vo, vp, vc] 31)).heap.size = w.heap.size + 1 := by simp
 have b1 := (Box3.made w 31 vo vp vc).ext (World.grownBy_alloc _ (.cells #[uo, up, uc] 31) none)
 have b2 := Box3.made (w.alloc (.cells #[vo, vp, vc] 31)) 31 uo up uc
 rw [hs1] at b2
 have HB := Lib.hid (And.intro b1 b2); clear b1 b2 hs1
 go_enter Tryz.func21, Tryz.ntmps21
 go_wp2_with fail
 generalize (w.alloc (.cells #[vo, vp, vc] 31)).alloc (.cells #[uo, up, uc] 31) = w0 at *
 refine Calls.mono (eqInt64S_ok _ _ _ _ _ S1 S2 (h3.o.ext hg0) (k3.o.ext hg0)) ?_
 rintro eA wA ⟨vA, rfl, hgA, rfl⟩
 have hgwA := grown_trans hg0 hgA
 obtain ⟨_, a0, a1, a2, _⟩ := HB.out.1.ext hgA
 obtain ⟨_, c0, c1, c2, _⟩ := HB.out.2.ext hgA
 have e1 : eqB P.orders P.orders = true := eqB_true.2 rfl
 go_wp2_with fail
 clear a0 a1 a2 c0 c1 c2 e1
 refine Calls.mono (eqInt64SS_ok _ _ _ _ _ S1 S2 (Rows2.ext h3.p hgwA) (Rows2.ext k3.p hgwA)) ?_
 rintro eB wB ⟨vB, rfl, hgB, rfl⟩
 have hgwB := grown_trans hgwA hgB
 obtain ⟨_, a0, a1, a2, _⟩ := HB.out.1.ext (grown_trans hgA hgB)
 obtain ⟨_, c0, c1, c2, _⟩ := HB.out.2.ext (grown_trans hgA hgB)
 have e1 : eqB P.powers P.powers = true := eqB_true.2 rfl
 go_wp2_with fail
 clear a0 a1 a2 c0 c1 c2 e1
 refine Calls.mono (eqInt64SSS_ok _ _ _ _ _ S1 S2 (Rows3.ext h3.c hgwB) (Rows3.ext k3.c hgwB)) ?_
 rintro eC wC ⟨vC, rfl, hgC, rfl⟩
 have e1 : eqB P.conj P.conj = true := eqB_true.2 rfl
 go_wp2
 go_ret
 exact ⟨_, rfl, grown_trans hgwB hgC, rfl⟩
end Go.Proofs.YtdklekdpdbjfiaaGreat

/- The laws' marks: laws.markInt64S.., heldInt64S..: each place of a value is given a number of its own, and looked at again. -/
namespace Go.Proofs.YtdklekdpdbjfiaaGreat
open Go.RowKit
set_option maxHeartbeats 1000000 in
theorem markInt64S_ok (v : Value) (l : List Int) (q : Int) (w : World) (F : Nat → Prop) (h : OwnIn F w v l) (hq : 0 ≤ q ∧ q + l.length ≤ 1000000000) :
  Calls Tryz.prog 31 #[v, .int .i64 q] w fun e w' => e = .returned (.int .i64 (q + l.length)) ∧ Touch F w w' ∧ OwnIn F w' v (upFrom q l.length) := by
 obtain ⟨hO, hF, hl⟩ := h
 rcases (Own.v hO).form with ⟨rfl, hnil⟩ | ⟨g, cap, rfl, hcap, _, hgs⟩
 ·have hl0 : l = [] := by cases l <;> simp_all
  subst hl0
  clear hnil hO
  go_enter Tryz.func31, Tryz.ntmps31
  go_wp2
  go_loopw [1, 5] (fun qv iv wr => qv = .int .i64 q ∧ iv = .int .i64 0 ∧ wr = w) (fun _ _ _ => 0)
  case atStart => exact ⟨rfl, rfl, rfl⟩
  case round =>
   obtain ⟨rfl, rfl, rfl⟩ := hrel
   go_wp2
   go_ret
   exact ⟨by simp, Touch.refl _ _, OwnIn.nil _ _⟩
 ·rw [List.length_map] at hcap
  rw [List.length_map] at hO ⊢
  clear hcap
  go_enter Tryz.func31, Tryz.ntmps31
  go_wp2
  go_loopw [1, 5] (fun qv iv wr => ∃ k : Nat, iv = .int .i64 k ∧ qv = .int .i64 (q + k) ∧ k ≤ l.length ∧ w.grownBy wr (some g) ∧ ∃ l', l'.length = l.length ∧ Own 0 wr (.slice (some ⟨g, 0, none⟩) l.length cap) l' ∧ ∀ i, i < k → gt l' i = q + i) (fun _ iv _ => l.length - (intOf iv).toNat)
  case atStart => exact ⟨0, rfl, by simp, by omega, grown_refl _ _, l, rfl, hO, fun i hi => by omega⟩
  case round =>
   obtain ⟨k, rfl, rfl, hk, hg, l', hl', hO', hm⟩ := hrel
   have HM := Lib.hid (And.intro hl' hm); clear hm hl'
   by_cases hlt : k < l.length
   ·have hc := hO'.cell k (by rw [HM.out.1]; exact hlt)
    have hf := hO'.frozen k
    obtain ⟨hs1, hs2⟩ := hO'.store k (q + k)
    have hgn := grown_trans hg hs2
    have hwr : IntKind.i64.wrap (q + (k : Int) + 1) = q + k + 1 := IntWalk.i64_in _ (by omega)
    clear hs2
    go_wp2
    go_roundw
    case rel => exact ⟨k + 1, by go_num, by simp; omega, by omega, hgn, l'.set k (q + k), by rw [List.length_set, HM.out.1], hs1, fun i hi => by
     by_cases e : k = i
     ·subst e; exact gt_set_eq _ _ _ (by rw [HM.out.1]; exact hlt)
     ·rw [gt_set_ne _ _ _ _ e]; exact HM.out.2 i (by omega)⟩
    case measure => simp [intOf]; omega
   ·have hke : k = l.length := by omega
    subst hke
    go_wp2
    go_ret
    have e : l' = upFrom q l.length := ext_gt (by rw [HM.out.1, upFrom_len]) (fun i hi => by
     rw [HM.out.1] at hi
     rw [HM.out.2 i hi, gt_upFrom _ _ _ hi])
    exact ⟨rfl, Touch.of hg (fun j hj => by cases hj; exact hF g rfl), by rw [← e]; exact hO', hF, by rw [upFrom_len]; exact hl⟩
set_option maxHeartbeats 1000000 in
theorem heldInt64S_ok (v : Value) (n : Nat) (q : Int) (w : World) (S : Nat → Prop) (h : Ints S w v (upFrom q n)) (hq : 0 ≤ q ∧ q + n ≤ 1000000000) :
  Calls Tryz.prog 40 #[v, .int .i64 q] w (Ret w fun _ r => r = .int .i64 (q + n)) := by
 obtain ⟨a, cap, rfl, hcap, _⟩ := h.shape
 rw [upFrom_len] at h ⊢
 go_enter Tryz.func40, Tryz.ntmps40
 go_wp2
 go_loopw [1, 5] (fun qv iv wr => ∃ k : Nat, iv = .int .i64 k ∧ qv = .int .i64 (q + k) ∧ k ≤ n ∧ Ext w wr) (fun _ iv _ => n - (intOf iv).toNat)
 case atStart => exact ⟨0, rfl, by simp, by omega, Ext.refl _⟩
 case round =>
  obtain ⟨k, rfl, rfl, hk, hg⟩ := hrel
  by_cases hlt : k < n
  ·obtain ⟨b, off, rfl, _, _, hc⟩ := Ints.at (h.ext hg) k (by rw [upFrom_len]; exact hlt)
   rw [gt_upFrom _ _ _ hlt] at hc
   have hwr : IntKind.i64.wrap (q + (k : Int) + 1) = q + k + 1 := IntWalk.i64_in _ (by omega)
   go_wp2
   go_roundw
   case rel => exact ⟨k + 1, by go_num, by simp; omega, by omega, hg⟩
   case measure => simp [intOf]; omega
  ·have hke : k = n := by omega
   subst hke
   go_wp2
   go_ret
   exact ⟨_, rfl, hg, rfl⟩
set_option maxHeartbeats 1000000 in
theorem markInt64SS_ok (v : Value) (xs : List (List Int)) (q : Int) (w : World) (F : Nat → Prop) (h : RowsW F w v xs) (hq0 : 0 ≤ q ∧ q + tot2 xs ≤ 1000000000) :
  Calls Tryz.prog 32 #[v, .int .i64 q] w fun e w' => e = .returned (.int .i64 (q + tot2 xs)) ∧ Touch F w w' ∧ RowsW F w' v (up2 q xs) := by
 have hq : 0 ≤ q ∧ q + szTo List.length xs xs.length ≤ 1000000000 := hq0
 clear hq0
 obtain ⟨G, H, hA, hG⟩ := SlD.g h
 obtain ⟨a, cap, rfl, hlen⟩ := (show ∃ a cap, v = .slice a xs.length cap ∧ xs.length ≤ 9223372036854775807 by obtain ⟨a, cap, hv, hl, _⟩ := hG; exact ⟨a, cap, hv, hl.2.1⟩)
 clear h
 go_enter Tryz.func32, Tryz.ntmps32
 go_wp2
 go_loopw [1, 5] (fun qv iv wr => ∃ k : Nat, iv = .int .i64 k ∧ qv = .int .i64 (q + szTo List.length xs k) ∧ k ≤ xs.length ∧ Touch F w wr ∧ SlG OwnIn G H wr (.slice a xs.length cap) (mixTo up1 List.length q xs k)) (fun _ iv _ => xs.length - (intOf iv).toNat)
 case atStart => exact ⟨0, rfl, by simp [szTo], by omega, Touch.refl _ _, hG⟩
 case round =>
  clear hG
  obtain ⟨k, rfl, rfl, hk, ht, hM⟩ := hrel
  have hM2 := hM
  obtain ⟨a', cap', hv, _, hcell⟩ := hM2
  rw [mixTo_len] at hv hcell
  cases hv
  by_cases hlt : k < xs.length
  ·obtain ⟨b, off, u, rfl, hHb, hbs, hc, hE⟩ := hcell k hlt
   rw [gt_mixTo _ _ _ _ _ _ hlt, if_neg (by omega)] at hE
   have hm := szTo_mono List.length xs (show k + 1 ≤ xs.length by omega)
   have hst : szTo List.length xs (k + 1) = szTo List.length xs k + List.length (gt xs k) := rfl
   have hqk : 0 ≤ q + (szTo List.length xs k : Nat) ∧ q + (szTo List.length xs k : Nat) + (List.length (gt xs k) : Nat) ≤ 1000000000 := by omega
   have HQ := Lib.hid (And.intro hqk (And.intro hm hst)); clear hqk hm hst hcell
   obtain ⟨au, nu, cu, rfl⟩ : ∃ au nu cu, u = .slice au nu cu := by obtain ⟨au, cu, hu, _⟩ := hE.ints.shape; exact ⟨_, _, _, hu⟩
   go_wp2_with fail
   refine Calls.mono (markInt64S_ok _ _ (q + (szTo List.length xs k : Nat)) wr (G k) hE HQ.out.1) ?_
   rintro eA wA ⟨rfl, htA, hEA⟩
   have hM3 := SlG.turn rdOwn hA (mixTo_len _ _ _ _ _) hM hlt hc htA hEA
   have ht3 : Touch F w wA := ht.trans htA (fun _ h => h) (fun i hi => (hA.2.1 k i hlt hi).1)
   clear hc hE hEA hM
   go_wp2
   go_roundw
   case rel => exact ⟨k + 1, by go_num, by simp [szTo]; omega, by omega, ht3, hM3⟩
   case measure => simp [intOf]; omega
  ·have hke : k = xs.length := by omega
   subst hke
   clear hcell
   go_wp2
   go_ret
   exact ⟨rfl, ht, SlG.d hM (by have := mixTo_len up1 List.length q xs xs.length; unfold up2; rw [this]; exact hA)⟩
set_option maxHeartbeats 1000000 in
theorem markInt64SSS_ok (v : Value) (xs : List (List (List Int))) (q : Int) (w : World) (F : Nat → Prop) (h : Rows3W F w v xs) (hq0 : 0 ≤ q ∧ q + tot3 xs ≤ 1000000000) :
  Calls Tryz.prog 36 #[v, .int .i64 q] w fun e w' => e = .returned (.int .i64 (q + tot3 xs)) ∧ Touch F w w' ∧ Rows3W F w' v (up3 q xs) := by
 have hq : 0 ≤ q ∧ q + szTo tot2 xs xs.length ≤ 1000000000 := hq0
 clear hq0
 obtain ⟨G, H, hA, hG⟩ := SlD.g h
 obtain ⟨a, cap, rfl, hlen⟩ := (show ∃ a cap, v = .slice a xs.length cap ∧ xs.length ≤ 9223372036854775807 by obtain ⟨a, cap, hv, hl, _⟩ := hG; exact ⟨a, cap, hv, hl.2.1⟩)
 clear h
 go_enter Tryz.func36, Tryz.ntmps36
 go_wp2
 go_loopw [1, 5] (fun qv iv wr => ∃ k : Nat, iv = .int .i64 k ∧ qv = .int .i64 (q + szTo tot2 xs k) ∧ k ≤ xs.length ∧ Touch F w wr ∧ SlG (fun F w u (x : List (List Int)) => RowsW F w u x) G H wr (.slice a xs.length cap) (mixTo up2 tot2 q xs k)) (fun _ iv _ => xs.length - (intOf iv).toNat)
 case atStart => exact ⟨0, rfl, by simp [szTo], by omega, Touch.refl _ _, hG⟩
 case round =>
  clear hG
  obtain ⟨k, rfl, rfl, hk, ht, hM⟩ := hrel
  have hM2 := hM
  obtain ⟨a', cap', hv, _, hcell⟩ := hM2
  rw [mixTo_len] at hv hcell
  cases hv
  by_cases hlt : k < xs.length
  ·obtain ⟨b, off, u, rfl, hHb, hbs, hc, hE⟩ := hcell k hlt
   rw [gt_mixTo _ _ _ _ _ _ hlt, if_neg (by omega)] at hE
   have hm := szTo_mono tot2 xs (show k + 1 ≤ xs.length by omega)
   have hst : szTo tot2 xs (k + 1) = szTo tot2 xs k + tot2 (gt xs k) := rfl
   have hqk : 0 ≤ q + (szTo tot2 xs k : Nat) ∧ q + (szTo tot2 xs k : Nat) + (tot2 (gt xs k) : Nat) ≤ 1000000000 := by omega
   have HQ := Lib.hid (And.intro hqk (And.intro hm hst)); clear hqk hm hst hcell
   obtain ⟨au, nu, cu, rfl⟩ : ∃ au nu cu, u = .slice au nu cu := by obtain ⟨au, cu, hu, _⟩ := SlD.shape hE; exact ⟨_, _, _, hu⟩
   go_wp2_with fail
   refine Calls.mono (markInt64SS_ok _ _ (q + (szTo tot2 xs k : Nat)) wr (G k) hE HQ.out.1) ?_
   rintro eA wA ⟨rfl, htA, hEA⟩
   have hM3 := SlG.turn rdRowsW hA (mixTo_len _ _ _ _ _) hM hlt hc htA hEA
   have ht3 : Touch F w wA := ht.trans htA (fun _ h => h) (fun i hi => (hA.2.1 k i hlt hi).1)
   clear hc hE hEA hM
   go_wp2
   go_roundw
   case rel => exact ⟨k + 1, by go_num, by simp [szTo]; omega, by omega, ht3, hM3⟩
   case measure => simp [intOf]; omega
  ·have hke : k = xs.length := by omega
   subst hke
   clear hcell
   go_wp2
   go_ret
   exact ⟨rfl, ht, SlG.d hM (by have := mixTo_len up2 tot2 q xs xs.length; unfold up3; rw [this]; exact hA)⟩
theorem szTo_le (xs : List (List Int)) : tot2 xs ≤ size2 xs := by unfold tot2 size2; omega
theorem szTo_le_of {α : Type} [Inhabited α] (f g : α → Nat) (h : ∀ x, f x ≤ g x) (xs : List α) (k : Nat) : szTo f xs k ≤ szTo g xs k := by
 induction k with
 | zero => exact Nat.le_refl _
 | succ k ih => simp only [szTo]; have := h (gt xs k); omega
theorem tot3_le (xs : List (List (List Int))) : tot3 xs ≤ size3 xs := by
 unfold tot3 size3
 have := szTo_le_of tot2 size2 szTo_le xs xs.length
 omega
set_option maxHeartbeats 2000000 in
theorem markPresentationB_ok (v : Value) (P : Pr) (w : World) (F : Nat → Prop) (h : PresW F w v P) (hl : sizeP P ≤ 1048576) :
  Calls Tryz.prog 30 #[v, .int .i64 1] w fun e w' => ∃ q : Int, (0 ≤ q ∧ q ≤ 4000000) ∧ e = .returned (.int .i64 q) ∧ Touch (fun k => F k ∨ w.heap.size ≤ k) w w' := by
 obtain ⟨vo, vp, vc, Fo, Fp, Fc, rfl, h1, h2, h3, h4, h5, h6⟩ := h
 have ho : P.orders.length ≤ 1048576 := by unfold sizeP at hl; omega
 have hp : tot2 P.powers ≤ 1048576 := by have := szTo_le P.powers; unfold sizeP at hl; omega
 have hc : tot3 P.conj ≤ 1048576 := by have := tot3_le P.conj; unfold sizeP at hl; omega
 have HS := Lib.hid (And.intro ho (And.intro hp hc)); clear ho hp hc hl
 have hg0 : Ext w (w.alloc (.cells #[vo, vp, vc] 31)) := World.grownBy_alloc _ _ _
 have b1 := Box3.made w 31 vo vp vc
 have hfr : ∀ (G : Nat → Prop) k, G k → k < w.heap.size → (G k ∧ k < w.heap.size) ∧ k < (w.alloc (.cells #[vo, vp, vc] 31)).heap.size ∧ (w.alloc (.cells #[vo, vp, vc] 31)).heap[k]? = w.heap[k]? := fun G k hk hlt => ⟨⟨hk, hlt⟩, Nat.lt_of_lt_of_le hlt hg0.size, hg0.block k hlt (by simp)⟩
 have g1 := rdOwn.mono h1 (hfr Fo)
 have g2 := rdRowsW.mono h2 (hfr Fp)
 have g3 := SlD.mono rdRowsW h3 (hfr Fc)
 have HF := Lib.hid (And.intro g1 (And.intro g2 (And.intro g3 (And.intro h4 (And.intro h5 h6))))); clear g1 g2 g3 h1 h2 h3 h4 h5 h6 hfr
 have HB := Lib.hid b1; clear b1
 have hsz : (w.alloc (.cells #[vo, vp, vc] 31)).heap.size = w.heap.size + 1 := by simp
 have HZ := Lib.hid hsz; clear hsz
 have hvo : ∃ a n c, vo = .slice a n c := by obtain ⟨a, c, hv, _⟩ := HF.out.1.ints.shape; exact ⟨_, _, _, hv⟩
 have hvp : ∃ a n c, vp = .slice a n c := by obtain ⟨a, c, hv, _⟩ := SlD.shape HF.out.2.1; exact ⟨_, _, _, hv⟩
 have hvc : ∃ a n c, vc = .slice a n c := by obtain ⟨a, c, hv, _⟩ := SlD.shape HF.out.2.2.1; exact ⟨_, _, _, hv⟩
 obtain ⟨oa, on, oc, rfl⟩ := hvo
 obtain ⟨pa, pn, pc, rfl⟩ := hvp
 obtain ⟨ca, cn, cc, rfl⟩ := hvc
 go_enter Tryz.func30, Tryz.ntmps30
 go_wp2_with fail
 generalize w.alloc (.cells #[.slice oa on oc, .slice pa pn pc, .slice ca cn cc] 31) = w0 at *
 have hbox : ∀ (G : Nat → Prop) (u1 u2 : World), Touch (fun k => G k ∧ k < w.heap.size) u1 u2 → Box3 u1 w.heap.size (.slice oa on oc) (.slice pa pn pc) (.slice ca cn cc) → Box3 u2 w.heap.size (.slice oa on oc) (.slice pa pn pc) (.slice ca cn cc) := fun G u1 u2 ht hb => by
  obtain ⟨c0, c1, c2, c3, c4⟩ := hb
  have e := ht.block w.heap.size c0 (fun h => by have := h.2; omega)
  exact ⟨Nat.lt_of_lt_of_le c0 ht.size, (World.cell?_of_block (w := u1) e).trans c1, (World.cell?_of_block (w := u1) e).trans c2, (World.cell?_of_block (w := u1) e).trans c3, fun k => (World.frozen?_of_block (w := u1) e).trans (c4 k)⟩
 have HX := Lib.hid hbox; clear hbox
 refine Calls.mono (markInt64S_ok _ _ 1 _ _ HF.out.1 ⟨by omega, by have := HS.out.1; omega⟩) ?_
 rintro eA wA ⟨rfl, hTA, _⟩
 have BA := HX.out _ _ _ hTA HB.out
 obtain ⟨_, a0, a1, a2, _⟩ := id BA
 have hpA := rdRowsW.mono HF.out.2.1 (hTA.frame (S := fun k => Fp k ∧ k < w.heap.size) (fun k hk hk' => (HF.out.2.2.2.1 k hk'.1).2.1 hk.1))
 have hcA := SlD.mono rdRowsW HF.out.2.2.1 (hTA.frame (S := fun k => Fc k ∧ k < w.heap.size) (fun k hk hk' => (HF.out.2.2.2.1 k hk'.1).2.2 hk.1))
 go_wp2_with fail
 clear a0 a1 a2
 refine Calls.mono (markInt64SS_ok _ _ (1 + (P.orders.length : Int)) _ _ hpA ⟨by omega, by have := HS.out; omega⟩) ?_
 rintro eB wB ⟨rfl, hTB, _⟩
 have BB := HX.out _ _ _ hTB BA
 obtain ⟨_, a0, a1, a2, _⟩ := id BB
 have hcB := SlD.mono rdRowsW hcA (hTB.frame (S := fun k => Fc k ∧ k < w.heap.size) (fun k hk hk' => (HF.out.2.2.2.2.1 k hk'.1).2 hk.1))
 go_wp2_with fail
 clear a0 a1 a2
 refine Calls.mono (markInt64SSS_ok _ _ (1 + (P.orders.length : Int) + (tot2 P.powers : Nat)) _ _ hcB ⟨by omega, by have := HS.out; omega⟩) ?_
 rintro eC wC ⟨rfl, hTC, _⟩
 go_wp2
 go_ret
 have t0 : Touch (fun k => F k ∨ w.heap.size ≤ k) w w0 := Touch.of hg0 (fun k hk => by cases hk)
 have t1 : Touch (fun k => F k ∨ w.heap.size ≤ k) w wA := t0.trans hTA (fun _ h => h) (fun k hk => .inl (HF.out.2.2.2.1 k hk.1).1)
 have t2 : Touch (fun k => F k ∨ w.heap.size ≤ k) w wB := t1.trans hTB (fun _ h => h) (fun k hk => .inl (HF.out.2.2.2.2.1 k hk.1).1)
 have t3 : Touch (fun k => F k ∨ w.heap.size ≤ k) w wC := t2.trans hTC (fun _ h => h) (fun k hk => .inl (HF.out.2.2.2.2.2 k hk.1))
 exact ⟨_, ⟨by omega, by have := HS.out; omega⟩, rfl, t3⟩
end Go.Proofs.YtdklekdpdbjfiaaGreat

/- The laws' look at marked rows of rows: laws.heldInt64SS, heldInt64SSS. -/
namespace Go.Proofs.YtdklekdpdbjfiaaGreat
open Go.RowKit
set_option maxHeartbeats 1000000 in
theorem heldInt64SS_ok (v : Value) (xs : List (List Int)) (q : Int) (w : World) (S : Nat → Prop) (h : Rows2 S w v (up2 q xs)) (hq0 : 0 ≤ q ∧ q + tot2 xs ≤ 1000000000) :
  Calls Tryz.prog 33 #[v, .int .i64 q] w (Ret w fun _ r => r = .int .i64 (q + tot2 xs)) := by
 have hq : 0 ≤ q ∧ q + szTo List.length xs xs.length ≤ 1000000000 := hq0
 clear hq0
 obtain ⟨a, cap, rfl, hcap, hmax⟩ := Sl.shape h
 have hul : (up2 q xs).length = xs.length := mixTo_len _ _ _ _ _
 rw [hul] at h hmax ⊢
 have HU := Lib.hid hul; clear hul
 go_enter Tryz.func33, Tryz.ntmps33
 go_wp2
 go_loopw [1, 5] (fun qv iv wr => ∃ k : Nat, iv = .int .i64 k ∧ qv = .int .i64 (q + szTo List.length xs k) ∧ k ≤ xs.length ∧ Ext w wr) (fun _ iv _ => xs.length - (intOf iv).toNat)
 case atStart => exact ⟨0, rfl, by simp [szTo], by omega, Ext.refl _⟩
 case round =>
  obtain ⟨k, rfl, rfl, hk, hg⟩ := hrel
  by_cases hlt : k < xs.length
  ·obtain ⟨b, off, a2, cap2, rfl, _, _, hc2, hi2⟩ := Rows2.at (Rows2.ext h hg) k (by rw [HU.out]; exact hlt)
   have hgu : gt (up2 q xs) k = up1 (q + szTo List.length xs k) (gt xs k) := by
    unfold up2; rw [gt_mixTo _ _ _ _ _ _ hlt, if_pos hlt]
   have hm := szTo_mono List.length xs (show k + 1 ≤ xs.length by omega)
   have hst : szTo List.length xs (k + 1) = szTo List.length xs k + List.length (gt xs k) := rfl
   have hqk : 0 ≤ q + (szTo List.length xs k : Nat) ∧ q + (szTo List.length xs k : Nat) + (List.length (gt xs k) : Nat) ≤ 1000000000 := by omega
   have h0 : 0 ≤ q + (szTo List.length xs k : Nat) + (List.length (gt xs k) : Nat) := by omega
   have h1 : ¬ (q + (szTo List.length xs k : Nat) + (List.length (gt xs k) : Nat) < 0) := by omega
   have hi3 : Ints S wr (.slice a2 (gt (up2 q xs) k).length cap2) (up1 (q + szTo List.length xs k) (gt xs k)) := by rw [← hgu]; exact hi2
   have HQ := Lib.hid (And.intro hqk (And.intro hm hst)); clear hqk hm hst hi2 hgu
   generalize (gt (up2 q xs) k).length = m2 at *
   go_wp2_with fail
   refine Calls.mono (heldInt64S_ok _ ((gt xs k).length) (q + (szTo List.length xs k : Nat)) wr S hi3 HQ.out.1) ?_
   rintro eA wA ⟨vA, rfl, hgA, rfl⟩
   clear hc2 hi3
   go_wp2
   go_roundw
   case rel => exact ⟨k + 1, by go_num, by simp [szTo]; omega, by omega, grown_trans hg hgA⟩
   case measure => simp [intOf]; omega
  ·have hke : k = xs.length := by omega
   subst hke
   go_wp2
   go_ret
   exact ⟨_, rfl, hg, rfl⟩
end Go.Proofs.YtdklekdpdbjfiaaGreat

/- Plain: the left cosets that are fixed: the representative of y x is x exactly if the conjugate of y by x lies in the subgroup. -/
namespace Go.Proofs.YtdklekdpdbjfiaaGreat
open Go.RowKit
def Zr (P : Pr) (U : List (List Int)) (x : List Int) : Prop := Vec P.orders x ∧ ∀ j, j < U.length → gt x (dep (gt U j)) = 0
theorem Grp.zr_one {P : Pr} (G : Grp P) {H : List Int → Prop} (S : Sub P H) {x y : List Int} (hx : Zr P (cseq P H) x) (hy : Zr P (cseq P H) y) (h : H (rMul P (rInv P x) y)) : x = y := by
 obtain ⟨_, _, h3⟩ := G.seq_facts S
 have hxi := G.invV hx.1
 have e1 : rMul P x (rMul P (rInv P x) y) = y := by rw [← G.ass hx.1 hxi hy.1, G.mul_inv hx.1, G.grp.el _ hy.1]
 by_cases hz : rMul P (rInv P x) y = zeros P.orders.length
 ·rw [hz, G.grp.er _ hx.1] at e1; exact e1
 ·exfalso
  have hzv := S.vec _ h
  obtain ⟨e, he, hT, h0⟩ := depth_ex hzv hz
  obtain ⟨j, hj, hje⟩ := h3 _ h e he hT h0
  have h2 := (G.right (Nat.le_of_lt he) hx.1 hT).2 he
  have hx0 := hx.2 j hj
  have hy0 := hy.2 j hj
  rw [hje] at hx0 hy0
  rw [e1, hx0, hy0, Int.zero_add] at h2
  have hb := hzv.2 e he
  rw [Int.emod_eq_of_lt hb.1 hb.2] at h2
  exact h0 h2.symm
theorem Grp.fix_iff {P : Pr} (G : Grp P) {H : List Int → Prop} (S : Sub P H) {x y Y : List Int} (hx : Zr P (cseq P H) x) (hy : Vec P.orders y) (hR : RepTo P (cseq P H) (rMul P y x) (cseq P H).length Y) : Y = x ↔ H (rConj P y x) := by
 have hm := (G.seq_facts S).2.1
 have hyx := G.mulV hy hx.1
 have hc := hR.cos H S hm
 have hxi := G.invV hx.1
 have hyi := G.invV hy
 have e2 : rMul P (rInv P (rMul P y x)) x = rInv P (rConj P y x) := by
  unfold rConj
  rw [G.inv_mulR hxi hyx, G.inv_inv hx.1]
 constructor
 ·rintro rfl
  rw [e2] at hc
  have := S.inv _ hc
  have hcv : Vec P.orders (rConj P y Y) := G.mulV hxi hyx
  rwa [G.inv_inv hcv] at this
 ·intro h
  have h1 : H (rMul P (rInv P (rMul P y x)) x) := by rw [e2]; exact S.inv _ h
  refine G.zr_one S ⟨hR.vec, hR.zer⟩ hx ?_
  have e3 : rMul P (rInv P Y) x = rMul P (rInv P (rMul P (rInv P (rMul P y x)) Y)) (rMul P (rInv P (rMul P y x)) x) := by
   have hA := G.invV hyx
   have hYi := G.invV hR.vec
   rw [G.inv_mulR hA hR.vec, G.inv_inv hyx, G.ass hYi hyx (G.mulV hA hx.1), ← G.ass hyx hA hx.1, G.mul_inv hyx, G.grp.el _ hx.1]
  rw [e3]
  exact S.mul _ _ (S.inv _ hc) h1
end Go.Proofs.YtdklekdpdbjfiaaGreat

/- Plain: the transversal of a sequence, listed by the program and by number. -/
namespace Go.Proofs.YtdklekdpdbjfiaaGreat
open Go.RowKit
def frI (P : Pr) (U : List (List Int)) : List Nat := (List.range P.orders.length).filter (fun i => !(U.map dep).contains i)
def ordN' (P : Pr) (i : Nat) : Nat := (gt P.orders i).toNat
def trS (P : Pr) (out : List (List Int)) (i : Nat) : List (List Int) := out.flatMap (fun x => (List.range (ordN' P i)).map (fun e => x.set i (e : Int)))
def trT (P : Pr) (is : List Nat) : List (List Int) := is.foldl (trS P) [zeros P.orders.length]
def elR (P : Pr) : List Nat → Nat → List Int
 | [], _ => zeros P.orders.length
 | i :: r, t => (elR P r (t / ordN' P i)).set i ((t % ordN' P i : Nat) : Int)
def szR (P : Pr) : List Nat → Nat
 | [] => 1
 | i :: r => szR P r * ordN' P i
theorem range_mul {α : Type} (g : Nat → Nat → α) (o : Nat) : ∀ N, (List.range N).flatMap (fun a => (List.range o).map (g a)) = (List.range (N * o)).map (fun t => g (t / o) (t % o))
 | 0 => by simp
 | N + 1 => by
  rw [List.range_succ, List.flatMap_append, range_mul g o N, Nat.succ_mul, List.range_add, List.map_append]
  congr 1
  rw [List.flatMap_singleton, List.map_map]
  refine List.map_congr_left (fun e he => ?_)
  have he' := List.mem_range.1 he
  have ho : 0 < o := by omega
  show g N e = g ((N * o + e) / o) ((N * o + e) % o)
  rw [Nat.add_comm (N * o) e, Nat.add_mul_div_right _ _ ho, Nat.div_eq_of_lt he', Nat.zero_add, Nat.add_mul_mod_self_right, Nat.mod_eq_of_lt he']
theorem trT_eq (P : Pr) : ∀ r : List Nat, trT P r.reverse = (List.range (szR P r)).map (elR P r)
 | [] => by simp [trT, szR, elR]
 | i :: r => by
  have ih := trT_eq P r
  unfold trT at ih ⊢
  rw [List.reverse_cons, List.foldl_append, ih]
  show trS P _ i = _
  unfold trS
  rw [List.flatMap_map]
  exact range_mul (fun a e => (elR P r a).set i (e : Int)) (ordN' P i) (szR P r)
end Go.Proofs.YtdklekdpdbjfiaaGreat

/- Plain: the elements of a consistent presentation as a type with products; subgroups, cosets, their counting. -/
namespace Go.Proofs.YtdklekdpdbjfiaaGreat
def El {P : Pr} (_ : Grp P) : Type := {x : List Int // Vec P.orders x}
section
variable {P : Pr} {G : Grp P}
instance : Mul (El G) := ⟨fun x y => ⟨rMul P x.1 y.1, G.mulV x.2 y.2⟩⟩
instance : One (El G) := ⟨⟨zeros P.orders.length, G.oneV⟩⟩
instance : Inv (El G) := ⟨fun x => ⟨rInv P x.1, G.invV x.2⟩⟩
theorem El.ass (x y z : El G) : x * y * z = x * (y * z) := Subtype.ext (G.ass x.2 y.2 z.2)
theorem El.ol (x : El G) : 1 * x = x := Subtype.ext (G.grp.el _ x.2)
theorem El.or (x : El G) : x * 1 = x := Subtype.ext (G.grp.er _ x.2)
theorem El.il (x : El G) : x⁻¹ * x = 1 := Subtype.ext (G.inv_mul x.2)
theorem El.ir (x : El G) : x * x⁻¹ = 1 := Subtype.ext (G.mul_inv x.2)
theorem El.ilc (x y : El G) : x⁻¹ * (x * y) = y := by rw [← El.ass, El.il, El.ol]
theorem El.irc (x y : El G) : x * (x⁻¹ * y) = y := by rw [← El.ass, El.ir, El.ol]
theorem El.inv_of {x y : El G} (h : x * y = 1) : y = x⁻¹ := by rw [← El.ilc x y, h, El.or]
theorem El.mi (x y : El G) : (x * y)⁻¹ = y⁻¹ * x⁻¹ := (El.inv_of (by rw [El.ass, El.irc, El.ir])).symm
theorem El.ii (x : El G) : x⁻¹⁻¹ = x := (El.inv_of (El.il x)).symm
def ep (x : El G) : Nat → El G
 | 0 => 1
 | k + 1 => ep x k * x
theorem ep_val (x : El G) : ∀ k, (ep x k).1 = pw P x.1 k
 | 0 => rfl
 | k + 1 => by
  show rMul P (ep x k).1 x.1 = _
  rw [ep_val x k]; rfl
structure SG (H : El G → Prop) : Prop where
 one : H 1
 mul : ∀ x y, H x → H y → H (x * y)
 inv : ∀ x, H x → H x⁻¹
theorem SG.ep {H : El G → Prop} (S : SG H) {x : El G} (hx : H x) (k : Nat) : H (ep x k) := by
 induction k with
 | zero => exact S.one
 | succ k ih => exact S.mul _ _ ih hx
theorem SG.and {H K : El G → Prop} (S : SG H) (R : SG K) : SG (fun x => H x ∧ K x) :=
 ⟨⟨S.one, R.one⟩, fun _ _ h k => ⟨S.mul _ _ h.1 k.1, R.mul _ _ h.2 k.2⟩, fun _ h => ⟨S.inv _ h.1, R.inv _ h.2⟩⟩
def dT (d : Nat) (x : El G) : Prop := ∀ k, k < d → gt x.1 k = 0
theorem dT_T {d : Nat} {x : El G} : dT d x ↔ T P d x.1 := ⟨fun h => ⟨x.2, h⟩, fun h => h.2⟩
theorem dT_sg {d : Nat} (hd : d ≤ P.orders.length) : SG (dT (G := G) d) :=
 ⟨dT_T.2 (T.zeros G.v d), fun _ _ h k => dT_T.2 (G.T_mul hd (dT_T.1 h) (dT_T.1 k)), fun _ h => dT_T.2 (G.T_inv hd (dT_T.1 h))⟩
theorem dT_top {x : El G} (h : dT P.orders.length x) : x = 1 := Subtype.ext ((dT_T.1 h).top G.v)
theorem dT_up {d : Nat} {x : El G} (h : dT d x) (h0 : gt x.1 d = 0) : dT (d + 1) x := dT_T.2 ((dT_T.1 h).up h0)
theorem dT_down {d : Nat} {x : El G} (h : dT (d + 1) x) : dT d x := fun k hk => h k (by omega)
theorem dT_zero (x : El G) : dT 0 x := fun k hk => by omega
def pv (H : El G → Prop) (d : Nat) : Prop := d < P.orders.length ∧ ∃ x, H x ∧ dT d x ∧ gt x.1 d ≠ 0
theorem hit7 (q b c : Nat) (hq : q = 2 ∨ q = 3 ∨ q = 5 ∨ q = 7) (h0 : 0 < b) (h1 : b < q) (hc : c < q) : ∃ j, (j * b) % q = c := by
 have key : ∀ q, q < 8 → (q = 2 ∨ q = 3 ∨ q = 5 ∨ q = 7) → ∀ b, b < q → 0 < b → ∀ c, c < q → ∃ j, j < q ∧ (j * b) % q = c := by decide
 obtain ⟨j, _, h⟩ := key q (by omega) hq b h1 h0 c hc
 exact ⟨j, h⟩
theorem ordN (G : Grp P) {d : Nat} (hd : d < P.orders.length) : ∃ q : Nat, gt P.orders d = (q : Int) ∧ (gt P.orders d).toNat = q ∧ (q = 2 ∨ q = 3 ∨ q = 5 ∨ q = 7) := by
 have := G.v.ord d hd
 exact ⟨(gt P.orders d).toNat, by omega, rfl, by omega⟩
theorem ep_dT {d : Nat} (hd : d ≤ P.orders.length) {x : El G} (h : dT d x) (k : Nat) : dT d (ep x k) := (dT_sg hd).ep h k
theorem ep_at {d : Nat} (hd : d < P.orders.length) {x : El G} (h : dT d x) (k : Nat) : gt (ep x k).1 d = ((k : Int) * gt x.1 d) % gt P.orders d := by
 rw [ep_val]; exact G.pw_at hd (dT_T.1 h) k
theorem lead_hit {d : Nat} (hd : d < P.orders.length) {x : El G} (h : dT d x) (h0 : gt x.1 d ≠ 0) {c : Int} (hc : 0 ≤ c ∧ c < gt P.orders d) : ∃ j, gt (ep x j).1 d = c := by
 obtain ⟨q, h1, h2, h3⟩ := ordN G hd
 have hb := x.2.2 d hd
 obtain ⟨b, hbe⟩ : ∃ b : Nat, gt x.1 d = (b : Int) := ⟨(gt x.1 d).toNat, by omega⟩
 obtain ⟨e, he⟩ : ∃ e : Nat, c = (e : Int) := ⟨c.toNat, by omega⟩
 obtain ⟨j, hj⟩ := hit7 q b e h3 (by omega) (by omega) (by omega)
 refine ⟨j, ?_⟩
 rw [ep_at hd h, h1, hbe, he, ← hj, Int.natCast_emod, Int.natCast_mul]
theorem el_diff {d : Nat} (hd : d < P.orders.length) {x y : El G} (hx : dT d x) (hy : dT d y) (h : gt x.1 d = gt y.1 d) : dT (d + 1) (x⁻¹ * y) :=
 dT_T.2 (G.diff hd (dT_T.1 hx) (dT_T.1 hy) h)
theorem el_same {d : Nat} (hd : d < P.orders.length) {x y : El G} (h : dT (d + 1) (x⁻¹ * y)) : gt x.1 d = gt y.1 d := by
 have h1 := (G.right (Nat.succ_le_of_lt hd) x.2 (dT_T.1 h)).1 d (by omega)
 have h2 : rMul P x.1 (x⁻¹ * y).1 = y.1 := congrArg Subtype.val (El.irc x y)
 rw [h2] at h1
 exact h1.symm
theorem els_ex (G : Grp P) : ∃ l : List (El G), l.Nodup ∧ ∀ x, x ∈ l := by
 have key : ∀ m : List (List Int), m.Nodup → ∃ l : List (El G), l.Nodup ∧ ∀ x : El G, x ∈ l ↔ x.1 ∈ m := by
  intro m
  induction m with
  | nil => intro _; exact ⟨[], List.nodup_nil, fun x => by simp⟩
  | cons a m ih =>
   intro h
   obtain ⟨h1, h2⟩ := List.nodup_cons.1 h
   obtain ⟨l, hl, hm⟩ := ih h2
   by_cases ha : Vec P.orders a
   ·obtain ⟨y, hy⟩ : ∃ y : El G, y.1 = a := ⟨⟨a, ha⟩, rfl⟩
    refine ⟨y :: l, List.nodup_cons.2 ⟨fun hh => h1 (hy ▸ (hm _).1 hh), hl⟩, fun x => ?_⟩
    rw [List.mem_cons, List.mem_cons, hm x]
    exact ⟨fun hh => hh.elim (fun e => .inl (by rw [e]; exact hy)) .inr, fun hh => hh.elim (fun e => .inl (Subtype.ext (e.trans hy.symm))) .inr⟩
   ·refine ⟨l, hl, fun x => ?_⟩
    rw [hm x, List.mem_cons]
    exact ⟨.inr, fun hh => hh.elim (fun e => absurd (e ▸ x.2) ha) id⟩
 obtain ⟨l, h1, h2⟩ := key (elemsIn P (Vec P.orders)) (elemsIn_nodup G.v _)
 exact ⟨l, h1, fun x => (h2 x).2 ((elemsIn_mem G.v (fun _ h => h)) x.1 |>.2 x.2)⟩
noncomputable def els (G : Grp P) : List (El G) := Classical.choose (els_ex G)
theorem els_nodup (G : Grp P) : (els G).Nodup := (Classical.choose_spec (els_ex G)).1
theorem els_mem (G : Grp P) (x : El G) : x ∈ els G := (Classical.choose_spec (els_ex G)).2 x
open Classical in
noncomputable def elsIn (H : El G → Prop) : List (El G) := (els G).filter (fun x => decide (H x))
theorem elsIn_nodup (H : El G → Prop) : (elsIn H).Nodup := (els_nodup G).filter _
theorem elsIn_mem {H : El G → Prop} {x : El G} : x ∈ elsIn H ↔ H x := by
 classical
 unfold elsIn; rw [List.mem_filter, decide_eq_true_iff]; exact ⟨fun h => h.2, fun h => ⟨els_mem G x, h⟩⟩
noncomputable def cd (H : El G → Prop) : Nat := (elsIn H).length
theorem cd_list {H : El G → Prop} {l : List (El G)} (h1 : l.Nodup) (h2 : ∀ x, x ∈ l ↔ H x) : cd H = l.length :=
 ((List.perm_ext_iff_of_nodup (elsIn_nodup H) h1).2 (fun x => elsIn_mem.trans (h2 x).symm)).length_eq
theorem cd_congr {H K : El G → Prop} (h : ∀ x, H x ↔ K x) : cd H = cd K := by
 have : H = K := funext fun x => propext (h x)
 rw [this]
def eqv (N : El G → Prop) (x y : El G) : Prop := N (x⁻¹ * y)
theorem eqv_refl {N : El G → Prop} (S : SG N) (x : El G) : eqv N x x := by unfold eqv; rw [El.il]; exact S.one
theorem flat_len {α β : Type} (l : List α) (f : α → List β) (n : Nat) (h : ∀ x ∈ l, (f x).length = n) : (l.flatMap f).length = l.length * n := flatMap_len' l f n h
theorem cd_mul {N B : El G → Prop} (S : SG N) {ts : List (El G)} (hn : ts.Nodup) (hc : ∀ t ∈ ts, ∀ n, N n → B (t * n)) (h1 : ∀ t ∈ ts, ∀ u ∈ ts, eqv N t u → t = u) (h2 : ∀ x, B x → ∃ t ∈ ts, eqv N t x) : cd B = ts.length * cd N := by
 rw [cd_list (H := B) (l := ts.flatMap (fun t => (elsIn N).map (fun n => t * n))) ?_ ?_]
 ·exact flat_len _ _ _ (fun x _ => List.length_map ..)
 ·refine List.nodup_iff_pairwise_ne.2 (List.pairwise_flatMap.2 ⟨fun t _ => ?_, ?_⟩)
  ·rw [List.pairwise_map]
   refine (List.nodup_iff_pairwise_ne.1 (elsIn_nodup N)).imp (fun {a b} hab e => hab ?_)
   have := congrArg (fun z => t⁻¹ * z) e
   simpa only [El.ilc] using this
  ·refine (List.nodup_iff_pairwise_ne.1 hn).imp_of_mem (fun {a b} ha hb hab x hx y hy e => hab (h1 a ha b hb ?_))
   obtain ⟨n, hn1, rfl⟩ := List.mem_map.1 hx
   obtain ⟨m, hm1, rfl⟩ := List.mem_map.1 hy
   unfold eqv
   have e2 : a⁻¹ * b = n * m⁻¹ := by
    have e3 : b = a * n * m⁻¹ := by rw [e, El.ass, El.ir, El.or]
    rw [e3, El.ass, El.ilc]
   rw [e2]
   exact S.mul _ _ (elsIn_mem.1 hn1) (S.inv _ (elsIn_mem.1 hm1))
 ·intro x
  rw [List.mem_flatMap]
  constructor
  ·rintro ⟨t, ht, hx⟩
   obtain ⟨n, hn1, rfl⟩ := List.mem_map.1 hx
   exact hc t ht n (elsIn_mem.1 hn1)
  ·intro hx
   obtain ⟨t, ht, h⟩ := h2 x hx
   exact ⟨t, ht, List.mem_map.2 ⟨t⁻¹ * x, elsIn_mem.2 h, El.irc t x⟩⟩
open Classical in
noncomputable def prd (P : Pr) (Q : Nat → Prop) : Nat → Nat → Nat
 | 0, _ => 1
 | f + 1, d => (if Q d then (gt P.orders d).toNat else 1) * prd P Q f (d + 1)
theorem prd_congr {Q R : Nat → Prop} : ∀ f d, (∀ k, d ≤ k → k < d + f → (Q k ↔ R k)) → prd P Q f d = prd P R f d
 | 0, _, _ => rfl
 | f + 1, d, h => by
  have h1 := h d (by omega) (by omega)
  unfold prd
  rw [prd_congr f (d + 1) (fun k a b => h k (by omega) (by omega))]
  by_cases hq : Q d
  ·rw [if_pos hq, if_pos (h1.1 hq)]
  ·rw [if_neg hq, if_neg (fun hr => hq (h1.2 hr))]
theorem prd_mul {Q R : Nat → Prop} : ∀ f d, (∀ k, d ≤ k → k < d + f → Q k → ¬ R k) → prd P Q f d * prd P R f d = prd P (fun k => Q k ∨ R k) f d
 | 0, _, _ => rfl
 | f + 1, d, h => by
  have h1 := h d (by omega) (by omega)
  have ih := prd_mul f (d + 1) (fun k a b => h k (by omega) (by omega))
  unfold prd
  rw [← ih]
  by_cases hq : Q d
  ·rw [if_pos hq, if_neg (h1 hq), if_pos (.inl hq)]
   simp only [Nat.one_mul, Nat.mul_assoc]
  ·by_cases hr : R d
   ·rw [if_neg hq, if_pos hr, if_pos (.inr hr)]
    simp only [Nat.one_mul, Nat.mul_left_comm]
   ·rw [if_neg hq, if_neg hr, if_neg (fun hh => hh.elim hq hr)]
    simp only [Nat.one_mul]
theorem prd_pos (G : Grp P) (Q : Nat → Prop) : ∀ f d, d + f = P.orders.length → 0 < prd P Q f d
 | 0, _, _ => Nat.one_pos
 | f + 1, d, h => by
  have := prd_pos G Q f (d + 1) (by omega)
  obtain ⟨q, _, h2, h3⟩ := ordN G (show d < P.orders.length by omega)
  unfold prd
  split
  ·exact Nat.mul_pos (by omega) this
  ·rw [Nat.one_mul]; exact this
theorem cd_pv {H : El G → Prop} (S : SG H) : ∀ f d, d + f = P.orders.length → cd (fun x => H x ∧ dT d x) = prd P (pv H) f d
 | 0, d, hd => by
  have : d = P.orders.length := by omega
  subst this
  have := cd_list (H := fun x => H x ∧ dT P.orders.length x) (l := [(1 : El G)]) (by simp) (fun x => by
   rw [List.mem_singleton]
   exact ⟨fun e => by rw [e]; exact ⟨S.one, (dT_sg (Nat.le_refl _)).one⟩, fun h => dT_top h.2⟩)
  exact this
 | f + 1, d, hd => by
  have hdn : d < P.orders.length := by omega
  have ih := cd_pv S f (d + 1) (by omega)
  have S' : SG (fun x => H x ∧ dT (d + 1) x) := S.and (dT_sg (by omega))
  have Sd : SG (dT (G := G) d) := dT_sg (by omega)
  rw [prd, ← ih]
  by_cases hp : pv H d
  ·rw [if_pos hp]
   obtain ⟨_, y0, hy0, hT0, hn0⟩ := hp
   obtain ⟨q, hq1, hq2, hq3⟩ := ordN G hdn
   obtain ⟨j, hj⟩ := lead_hit hdn hT0 hn0 (c := 1) (by omega)
   obtain ⟨y, hy⟩ : ∃ y, y = ep y0 j := ⟨_, rfl⟩
   have hyH : H y := by rw [hy]; exact S.ep hy0 j
   have hyT : dT d y := by rw [hy]; exact ep_dT (by omega) hT0 j
   have hy1 : gt y.1 d = 1 := by rw [hy]; exact hj
   have hat : ∀ i, i < q → gt (ep y i).1 d = (i : Int) := fun i hi => by
    rw [ep_at hdn hyT, hy1, hq1, Int.mul_one, Int.emod_eq_of_lt (by omega) (by omega)]
   have hinj : ∀ i j, i < q → j < q → eqv (fun x => H x ∧ dT (d + 1) x) (ep y i) (ep y j) → i = j := fun i j hi hj h => by
    have := el_same hdn h.2
    rw [hat i hi, hat j hj] at this
    omega
   have hl : ((List.range q).map (fun i => ep y i)).length = (gt P.orders d).toNat := by rw [List.length_map, List.length_range, hq2]
   rw [← hl]
   refine cd_mul S' ?_ ?_ ?_ ?_
   ·refine List.nodup_iff_pairwise_ne.2 ?_
    rw [List.pairwise_map]
    refine (List.nodup_iff_pairwise_ne.1 List.nodup_range).imp_of_mem (fun {a b} ha hb hab e => hab (hinj a b (List.mem_range.1 ha) (List.mem_range.1 hb) ?_))
    rw [e]; exact eqv_refl S' _
   ·intro t ht n hn
    obtain ⟨i, _, rfl⟩ := List.mem_map.1 ht
    exact ⟨S.mul _ _ (S.ep hyH i) hn.1, Sd.mul _ _ (Sd.ep hyT i) (dT_down hn.2)⟩
   ·intro t ht u hu h
    obtain ⟨i, hi, rfl⟩ := List.mem_map.1 ht
    obtain ⟨k, hk, rfl⟩ := List.mem_map.1 hu
    rw [hinj i k (List.mem_range.1 hi) (List.mem_range.1 hk) h]
   ·intro x hx
    have hb := x.2.2 d hdn
    refine ⟨ep y (gt x.1 d).toNat, List.mem_map.2 ⟨_, List.mem_range.2 (by omega), rfl⟩, S.mul _ _ (S.inv _ (S.ep hyH _)) hx.1, el_diff hdn (Sd.ep hyT _) hx.2 ?_⟩
    rw [hat _ (by omega)]; omega
  ·rw [if_neg hp, Nat.one_mul]
   exact cd_congr (fun x => ⟨fun h => ⟨h.1, dT_up h.2 (Classical.byContradiction fun h0 => hp ⟨hdn, x, h.1, h.2, h0⟩)⟩, fun h => ⟨h.1, dT_down h.2⟩⟩)
theorem cd_eq {H : El G → Prop} (S : SG H) : cd H = prd P (pv H) P.orders.length 0 := by
 rw [← cd_pv S _ _ (Nat.zero_add _)]
 exact cd_congr (fun x => ⟨fun h => ⟨h, dT_zero x⟩, fun h => h.1⟩)
end
end Go.Proofs.YtdklekdpdbjfiaaGreat

/- Plain: Hall's theorem: subgroups for a set of primes exist, and every subgroup whose order has only these primes lies in a conjugate of a given one. -/
namespace Go.Proofs.YtdklekdpdbjfiaaGreat
section
variable {P : Pr} {G : Grp P}
def nrm (L N : El G → Prop) : Prop := ∀ g x, L g → N x → N (g⁻¹ * (x * g))
structure AbF (N M : El G → Prop) : Prop where
 sn : SG N
 sm : SG M
 le : ∀ x, N x → M x
 nn : nrm M N
 ab : ∀ x y, M x → M y → N (x⁻¹ * (y⁻¹ * (x * y)))
section
variable {N M : El G → Prop} (A : AbF N M)
include A
theorem AbF.mul {x x' y y' : El G} (h : eqv N x x') (k : eqv N y y') (hy : M y) : eqv N (x * y) (x' * y') := by
 have h1 := A.sn.mul _ _ (A.nn y _ hy h) k
 unfold eqv
 have e : (x * y)⁻¹ * (x' * y') = y⁻¹ * (x⁻¹ * x' * y) * (y⁻¹ * y') := by simp only [El.mi, El.ass, El.irc]
 rw [e]; exact h1
theorem AbF.comm {x y : El G} (hx : M x) (hy : M y) : eqv N (x * y) (y * x) := by
 have h1 := A.ab y x hy hx
 unfold eqv
 rw [El.mi, El.ass]; exact h1
theorem AbF.ep {x y : El G} (hx : M x) (h : eqv N x y) : ∀ k, eqv N (ep x k) (ep y k)
 | 0 => eqv_refl A.sn _
 | k + 1 => A.mul (AbF.ep hx h k) h hx
end
def lp : List (El G) → El G
 | [] => 1
 | x :: l => x * lp l
section
variable {N M : El G → Prop} (A : AbF N M)
include A
end
end
end Go.Proofs.YtdklekdpdbjfiaaGreat

/- Plain: Hall subgroups as sequences: the orders, the way up to one, their one class, the one ascending list. -/
namespace Go.Proofs.YtdklekdpdbjfiaaGreat
open Go.RowKit
section
variable {P : Pr} {G : Grp P}
def toE (G : Grp P) (H : List Int → Prop) : El G → Prop := fun x => H x.1
theorem toE_sg {H : List Int → Prop} (S : Sub P H) : SG (toE G H) := ⟨S.one, fun _ _ h k => S.mul _ _ h k, fun _ h => S.inv _ h⟩
theorem order_cd {H : List Int → Prop} (S : Sub P H) : prodU P (cseq P H) (cseq P H).length = (cd (toE G H) : Int) := by
 rw [G.order_elems S]
 have h1 : ((elsIn (toE G H)).map (fun x : El G => x.1)).Nodup := by
  refine List.nodup_iff_pairwise_ne.2 ?_
  rw [List.pairwise_map]
  exact (List.nodup_iff_pairwise_ne.1 (elsIn_nodup _)).imp (fun {a b} hab e => hab (Subtype.ext e))
 have h2 := (List.perm_ext_iff_of_nodup (elemsIn_nodup G.v H) h1).2 (fun x => by
  rw [elemsIn_mem G.v S.vec, List.mem_map]
  constructor
  ·intro hx
   exact ⟨⟨x, S.vec x hx⟩, elsIn_mem.2 hx, rfl⟩
  ·rintro ⟨y, hy, rfl⟩
   exact elsIn_mem.1 hy)
 rw [h2.length_eq, List.length_map]
 rfl
def pvU (G : Grp P) (u : List (List Int)) : Nat → Prop := pv (toE G (gP P u))
theorem ordU (G : Grp P) {u : List (List Int)} (hu : SubB P u) : prodU P u u.length = (prd P (pvU G u) P.orders.length 0 : Nat) := by
 have S := G.subB hu
 have h := order_cd (G := G) S
 rw [cd_eq (toE_sg S)] at h
 have e : cseq P (genP P fun x => x ∈ u) = u := hu.2.symm
 rw [e] at h
 exact h
noncomputable def prF (P : Pr) (Q : Nat → Prop) (d : Nat) : Nat := prd P Q d 0
theorem prd_app (Q : Nat → Prop) : ∀ f d, prd P Q (f + 1) d = prd P Q f d * prd P Q 1 (d + f)
 | 0, d => by
  show prd P Q 1 d = 1 * prd P Q 1 (d + 0)
  rw [Nat.one_mul]; rfl
 | f + 1, d => by
  have ih := prd_app Q f (d + 1)
  rw [prd, ih, ← Nat.mul_assoc, show d + 1 + f = d + (f + 1) by omega]
  conv => rhs; rw [prd]
open Classical in
theorem prF_succ (Q : Nat → Prop) (d : Nat) : prF P Q (d + 1) = prF P Q d * (if Q d then (gt P.orders d).toNat else 1) := by
 unfold prF
 rw [prd_app, Nat.zero_add, prd, prd, Nat.mul_one]
def hallTo (P : Pr) (pr : List Int) : Nat → Int
 | 0 => 1
 | k + 1 => if gt P.orders k ∈ pr then hallTo P pr k * gt P.orders k else hallTo P pr k
abbrev hallO (P : Pr) (pr : List Int) : Int := hallTo P pr P.orders.length
def HallP (P : Pr) (pr : List Int) (u : List (List Int)) : Prop := SubB P u ∧ prodU P u u.length = hallO P pr
def HallL (P : Pr) (pr : List Int) (L : List (List (List Int))) : Prop := L.Pairwise (subLt P) ∧ ∀ u, u ∈ L ↔ HallP P pr u
theorem HallL.one {pr : List Int} {L M : List (List (List Int))} (h : HallL P pr L) (k : HallL P pr M) : L = M :=
 sorted_one (fun _ => subLt_irrefl) (fun _ _ _ => subLt_trans) h.1 k.1 (fun u => (h.2 u).trans (k.2 u).symm)
end
end Go.Proofs.YtdklekdpdbjfiaaGreat

/- The codes and orders of Hall subgroups: impl.hallOrder, isPrimeSet, hallCode; spec.l20Primes, l20Code. -/
namespace Go.Proofs.YtdklekdpdbjfiaaGreat
open Go.RowKit
end Go.Proofs.YtdklekdpdbjfiaaGreat

/- The codes of Hall subgroups: impl.hallCode; spec.l20Primes, l20Code. -/
namespace Go.Proofs.YtdklekdpdbjfiaaGreat
open Go.RowKit
end Go.Proofs.YtdklekdpdbjfiaaGreat

/- spec.l01Part, l20Part: the part of an order for a set of primes. -/
namespace Go.Proofs.YtdklekdpdbjfiaaGreat
open Go.RowKit
section
variable {P : Pr}
theorem prd_all (G : Grp P) : ((prd P (fun _ => True) P.orders.length 0 : Nat) : Int) = ordP P := by
 have key : ∀ k, k ≤ P.orders.length → ((prF P (fun _ => True) k : Nat) : Int) = prodTo P.orders k := by
  intro k
  induction k with
  | zero => intro _; rfl
  | succ k ih =>
   intro h
   obtain ⟨q, h1, h2, h3⟩ := ordN G (show k < P.orders.length by omega)
   rw [prF_succ, if_pos trivial, Int.natCast_mul, ih (by omega), h2, prodTo, h1]
 exact key _ (Nat.le_refl _)
end
end Go.Proofs.YtdklekdpdbjfiaaGreat

/- Plain: the index of a subgroup as a product over the free indices; the number of fixed cosets. -/
namespace Go.Proofs.YtdklekdpdbjfiaaGreat
open Go.RowKit
section
variable {P : Pr}
theorem frI_mem {U : List (List Int)} {i : Nat} : i ∈ frI P U ↔ i < P.orders.length ∧ ¬ i ∈ U.map dep := by
 unfold frI
 rw [List.mem_filter, List.mem_range]
 simp
theorem szR_prF (p : Nat → Bool) : ∀ k, szR P ((List.range k).filter p).reverse = prF P (fun d => p d = true) k
 | 0 => rfl
 | k + 1 => by
  rw [List.range_succ, List.filter_append, List.reverse_append, prF_succ]
  by_cases h : p k = true
  ·rw [List.filter_cons_of_pos h, List.filter_nil, List.reverse_singleton, List.singleton_append, if_pos h]
   show szR P _ * ordN' P k = _
   rw [szR_prF p k]; rfl
  ·rw [List.filter_cons_of_neg h, List.filter_nil, List.reverse_nil, List.nil_append, if_neg h, Nat.mul_one, szR_prF p k]
theorem pvU_dep (G : Grp P) {U : List (List Int)} (h : SubB P U) (d : Nat) : pvU G U d ↔ d ∈ U.map dep := by
 have S := G.subB h
 obtain ⟨h1, h2, h3⟩ := G.seq_facts S
 have e : cseq P (gP P U) = U := h.2.symm
 rw [e] at h1 h2 h3
 constructor
 ·rintro ⟨hd, x, hx, hT, h0⟩
  obtain ⟨j, hj, hjd⟩ := h3 x.1 hx d hd (dT_T.1 hT) h0
  exact List.mem_map.2 ⟨_, gt_mem hj, hjd⟩
 ·intro hm
  obtain ⟨z, hz, rfl⟩ := List.mem_map.1 hm
  obtain ⟨hv, hlt, h1z⟩ := h1.1 z hz
  exact ⟨hlt, ⟨z, hv⟩, h2 z hz, dT_T.2 (dep_T hv), by show gt z (dep z) ≠ 0; rw [h1z]; decide⟩
theorem idx_mul (G : Grp P) {U : List (List Int)} (h : SubB P U) : ordP P = prodU P U U.length * ((szR P (frI P U).reverse : Nat) : Int) := by
 have e1 : szR P (frI P U).reverse = prd P (fun d => ¬ pvU G U d) P.orders.length 0 := by
  unfold frI
  rw [szR_prF]
  exact prd_congr _ _ (fun k _ _ => by rw [pvU_dep G h]; simp)
 rw [ordU G h, e1, ← Int.natCast_mul, prd_mul _ _ (fun k _ _ hk hh => hh hk)]
 rw [← prd_all G, Int.natCast_inj]
 exact prd_congr _ _ (fun k _ _ => ⟨fun _ => Classical.em _, fun _ => trivial⟩)
theorem idx_div (G : Grp P) {U : List (List Int)} (h : SubB P U) : ordP P / prodU P U U.length = ((szR P (frI P U).reverse : Nat) : Int) := by
 have hp : 0 < prodU P U U.length := by
  rw [ordU G h]
  have := prd_pos G (pvU G U) _ _ (Nat.zero_add _)
  omega
 rw [idx_mul G h, Int.mul_comm, Int.mul_ediv_cancel _ (by omega)]
theorem elR_zr (G : Grp P) {U : List (List Int)} (t : Nat) : Zr P U (elR P (frI P U).reverse t) := by
 have key : ∀ (r : List Nat), (∀ i ∈ r, i < P.orders.length ∧ ¬ i ∈ U.map dep) → ∀ t, Vec P.orders (elR P r t) ∧ ∀ k, k ∈ U.map dep → gt (elR P r t) k = 0 := by
  intro r
  induction r with
  | nil => intro _ t; exact ⟨G.oneV, fun k _ => gt_replicate _ _⟩
  | cons i r ih =>
   intro hr t
   obtain ⟨h1, h2⟩ := ih (fun j hj => hr j (List.mem_cons_of_mem _ hj)) (t / ordN' P i)
   obtain ⟨hi, hn⟩ := hr i (List.mem_cons_self ..)
   obtain ⟨q, e1, e2, e3⟩ := ordN G hi
   have hq : ordN' P i = q := e2
   have hq2 : 2 ≤ q := by omega
   unfold elR
   refine ⟨⟨by rw [List.length_set]; exact h1.1, fun k hk => ?_⟩, fun k hk => ?_⟩
   ·by_cases hki : k = i
    ·subst hki
     rw [gt_set_eq _ _ _ (by rw [h1.1]; exact hi), hq, e1]
     have := Nat.mod_lt t (show 0 < q by omega)
     omega
    ·rw [gt_set_ne _ _ _ _ (fun h => hki h.symm)]
     exact h1.2 k hk
   ·have hki : k ≠ i := fun h => hn (h ▸ hk)
    rw [gt_set_ne _ _ _ _ (fun h => hki h.symm)]
    exact h2 k hk
 obtain ⟨h1, h2⟩ := key (frI P U).reverse (fun i hi => frI_mem.1 (List.mem_reverse.1 hi)) t
 exact ⟨h1, fun j hj => h2 _ (List.mem_map.2 ⟨_, gt_mem hj, rfl⟩)⟩
open Classical in
noncomputable def fixN (P : Pr) (U V : List (List Int)) : Nat := ((trT P (frI P U)).filter (fun x => decide (∀ y ∈ V, gP P U (rConj P y x)))).length
end
end Go.Proofs.YtdklekdpdbjfiaaGreat

/- spec.l12Within. -/
namespace Go.Proofs.YtdklekdpdbjfiaaGreat
open Go.RowKit
set_option maxRecDepth 100000 in
set_option maxHeartbeats 2000000 in
theorem l12Within_ok (P : Pr) (G : Grp P) (w : World) (pv uv vv : Value) (U : List (List Int)) (K : List Int → Prop) (Sp Su Sv : Nat → Prop) (S : Sub P K) (hpv : PresV Sp w pv P) (hu : Rows2 Su w uv U) (hU : ∀ z ∈ U, Vec P.orders z) (hv : Rows2 Sv w vv (cseq P K)) :
  Calls Tryz.prog 89 #[pv, uv, vv] w (Ret w fun _ v => ∃ r : Bool, v = .bool r ∧ (r = true ↔ ∀ z ∈ U, K z)) := by
 obtain ⟨vo, vp, vc, rfl, h3⟩ := hpv
 have hp0 := PresP.box h3 31
 have hg0 : Ext w (w.alloc (.cells #[vo, vp, vc] 31)) := World.grownBy_alloc _ _ _
 obtain ⟨vo6, vp6, vc6, _, _, hc0, hc1, hc2, h36⟩ := hp0.at
 simp only [Nat.zero_add] at hc1 hc2
 have hbx : ∀ w', Ext (w.alloc (.cells #[vo, vp, vc] 31)) w' → w'.cell? ⟨w.heap.size, 0, none⟩ = some vo6 ∧ w'.cell? ⟨w.heap.size, 1, none⟩ = some vp6 ∧ w'.cell? ⟨w.heap.size, 2, none⟩ = some vc6 := fun w' h => ⟨h.cell hc0 (by simp), h.cell hc1 (by simp), h.cell hc2 (by simp)⟩
 have HB := Lib.hid hbx; clear hbx hp0
 have hu0 := Rows2.ext hu hg0
 have hv0 := Rows2.ext hv hg0
 obtain ⟨au, capu, rfl, _, _⟩ := Sl.shape hu
 obtain ⟨av, capv, rfl, _, _⟩ := Sl.shape hv
 have HU := Lib.hid hU; clear hu hv hU
 go_enter Tryz.func89, Tryz.ntmps89
 go_wp2
 clear hc0 hc1 hc2
 generalize hw0 : w.alloc (.cells #[vo, vp, vc] 31) = w0 at *
 clear hw0
 go_loopw [7] (fun iv wr => ∃ i : Nat, iv = .int .i64 i ∧ i ≤ U.length ∧ Ext w0 wr ∧ Hid (∀ j, j < i → K (gt U j))) (fun iv _ => U.length - (intOf iv).toNat)
 case atStart => exact ⟨0, by go_num, by omega, Ext.refl _, Lib.hid (fun j hj => by omega)⟩
 case round =>
  obtain ⟨i, rfl, hi, hg, hN⟩ := hrel
  by_cases hlt : i < U.length
  ·have hlt' : (i : Int) < U.length := by omega
   obtain ⟨b, off, a2, cap2, hab, _, _, hc, hx⟩ := Rows2.at hu0 i hlt
   subst hab
   have hXV := HU.out _ (gt_mem hlt)
   have e1 : ∀ w', Ext wr w' → w'.cell? ⟨w.heap.size, 0, none⟩ = some vo6 := fun w' h => (HB.out w' (grown_trans hg h)).1
   have e2 : ∀ w', Ext wr w' → w'.cell? ⟨w.heap.size, 1, none⟩ = some vp6 := fun w' h => (HB.out w' (grown_trans hg h)).2.1
   have e3 : ∀ w', Ext wr w' → w'.cell? ⟨w.heap.size, 2, none⟩ = some vc6 := fun w' h => (HB.out w' (grown_trans hg h)).2.2
   have e4 : ∀ w', Ext wr w' → w'.cell? ⟨b, off + i, none⟩ = some (.slice a2 (gt U i).length cap2) := fun w' h => (grown_trans hg h).cell hc (by simp)
   obtain ⟨x, hxd⟩ : ∃ x, x = gt U i := ⟨_, rfl⟩
   rw [← hxd] at hx hXV e4
   have HX := Lib.hid (And.intro hxd hXV); clear hxd hXV hc
   go_wp2
   go_region_held3 (fun w' => Ext wr w') (first | exact grown_drew _ _ | exact Ext.refl _ | assumption)
    (first
     | (go_at_call 153; refine Calls.mono (Calls.rel (w0 := wr) (by assumption) (l12Has_ok P G _ _ _ _ K x Any _ _ S ⟨_, _, _, rfl, Pres3.ext h36 (grown_trans hg (by assumption))⟩ (Rows2.ext hv0 (grown_trans hg (by assumption))) (Ints.ext hx (grown_trans hg (by assumption))) HX.out.2)) ?_; rintro e4 w4 ⟨v4, rfl, hg4, hs4, r, rfl, hr⟩))
   clear e1 e2 e3 e4
   cases r with
   | true =>
    have hK := hr.1 rfl
    rw [HX.out.1] at hK
    have hN2 : Hid (∀ j, j < i + 1 → K (gt U j)) := Lib.hid (fun j hj => by
     rcases Nat.lt_succ_iff_lt_or_eq.1 hj with h | h
     ·exact hN.out j h
     ·subst h; exact hK)
    clear hr hK
    go_wp2
    go_roundw
    case rel => exact ⟨i + 1, by go_num, by omega, grown_trans hg hg4, hN2⟩
    case measure => simp [intOf]; omega
   | false =>
    have hno : ¬ ∀ z ∈ U, K z := fun h => by
     have := hr.2 (by rw [HX.out.1]; exact h _ (gt_mem hlt))
     cases this
    have HNO := Lib.hid hno; clear hr hno
    go_wp2
    go_ret
    exact ⟨_, rfl, grown_trans hg0 (grown_trans hg hg4), false, rfl, by simpa using HNO.out⟩
  ·have hyes : ∀ z ∈ U, K z := fun z hz => by
    obtain ⟨j, hj, rfl⟩ := mem_gt hz
    exact hN.out j (by omega)
   have hnl : ¬ (i : Int) < U.length := by omega
   have HY := Lib.hid hyes; clear hyes hN
   go_wp2
   go_ret
   first | exact ⟨_, rfl, grown_trans hg0 hg, true, rfl, by simpa using HY.out⟩ | exact ⟨_, rfl, grown_trans hg0 hg, .inr ⟨rfl, HY.out⟩⟩
end Go.Proofs.YtdklekdpdbjfiaaGreat

/- impl.meet, impl.productSize. -/
namespace Go.Proofs.YtdklekdpdbjfiaaGreat
open Go.RowKit
end Go.Proofs.YtdklekdpdbjfiaaGreat

/- spec.l13Conj: a conjugate of a subgroup. -/
namespace Go.Proofs.YtdklekdpdbjfiaaGreat
open Go.RowKit
set_option maxRecDepth 100000 in
set_option maxHeartbeats 4000000 in
theorem l13Conj_ok (P : Pr) (G : Grp P) (w : World) (pv uv xv : Value) (L : List (List Int)) (X : List Int) (Sp Su Sx : Nat → Prop) (hpv : PresV Sp w pv P) (hu : Rows2 Su w uv L) (hL : ∀ y ∈ L, Vec P.orders y) (hlen : L.length ≤ 10000) (hx : Ints Sx w xv X) (hX : Vec P.orders X) :
  Calls Tryz.prog 129 #[pv, uv, xv] w (Ret w fun w' v => Rows2 Any w' v (cseq P (genP P (fun z => z ∈ conjL P L X)))) := by
 have hP := G.v
 have hn6 := hP.n6
 obtain ⟨vo, vp, vc, rfl, h3⟩ := hpv
 have hp0 := PresP.box h3 31
 have hg0 : Ext w (w.alloc (.cells #[vo, vp, vc] 31)) := World.grownBy_alloc _ _ _
 have hs0 : (w.alloc (.cells #[vo, vp, vc] 31)).heap.size = w.heap.size + 1 := by simp
 have hu0 := Rows2.ext hu hg0
 have hx0 := hx.ext hg0
 obtain ⟨au, capu, rfl, _, _⟩ := Sl.shape hu
 obtain ⟨ax, capx, rfl, _, _⟩ := hx.shape
 obtain ⟨vo6, vp6, vc6, _, _, hc0, hc1, hc2, h36⟩ := hp0.at
 simp only [Nat.zero_add] at hc1 hc2
 have hcl : (conjL P L X).length = L.length := by unfold conjL; rw [List.length_map]
 have hCV : ∀ z ∈ conjL P L X, Vec P.orders z := fun z hz => by
  unfold conjL at hz
  obtain ⟨y, hy, rfl⟩ := List.mem_map.1 hz
  exact G.conjV (hL y hy) hX
 have HL := Lib.hid (And.intro hL (And.intro hX (And.intro hcl hCV))); clear hL hX hcl hCV hp0 hu hx
 go_enter Tryz.func129, Tryz.ntmps129
 go_wp2
 have HS := Lib.hid hs0; clear hs0
 generalize hw0 : w.alloc (.cells #[vo, vp, vc] 31) = w0 at *
 clear hw0
 have f1 : ∀ w', Ext w0 w' → w'.cell? ⟨w.heap.size, 0, none⟩ = some vo6 := fun w' h => h.cell hc0 (by simp)
 have f2 : ∀ w', Ext w0 w' → w'.cell? ⟨w.heap.size, 1, none⟩ = some vp6 := fun w' h => h.cell hc1 (by simp)
 have f3 : ∀ w', Ext w0 w' → w'.cell? ⟨w.heap.size, 2, none⟩ = some vc6 := fun w' h => h.cell hc2 (by simp)
 have HF := Lib.hid (And.intro f1 (And.intro f2 f3)); clear f1 f2 f3 hc0 hc1 hc2
 go_loopw [7, 8] (fun ov iv wr => ∃ (k : Nat) (v4 : Value), v4 = ov ∧ iv = .int .i64 k ∧ k ≤ L.length ∧ Ext w0 wr ∧ ShQ (fun _ => False) w0.heap.size wr v4 ((conjL P L X).take k)) (fun _ iv _ => L.length - (intOf iv).toNat)
 case atStart => exact ⟨0, _, rfl, rfl, by omega, World.grownBy_alloc _ _ _, by rw [← HS.out]; exact ShQ.lit _ _ _ (Nat.le_refl _)⟩
 case round =>
  obtain ⟨k, v4, rfl, rfl, hk, hg, hQ⟩ := hrel
  by_cases hlt : k < L.length
  ·have hlt' : (k : Int) < L.length := by omega
   obtain ⟨b, off, a2, cap2, rfl, _, _, hc, hr⟩ := Rows2.at hu0 k hlt
   have hyV := HL.out.1 _ (gtMem hlt)
   have hstep : (conjL P L X).take (k + 1) = (conjL P L X).take k ++ [rConj P (gt L k) X] := by
    rw [take_succ_gt _ k (by rw [HL.out.2.2.1]; exact hlt)]
    unfold conjL
    rw [gt_map _ _ _ hlt]
   have htl : ((conjL P L X).take k).length ≤ 1000000 := by rw [List.length_take]; have := HL.out.2.2.1; omega
   have hcV := G.conjV hyV HL.out.2.1
   have hqlt : ∀ j, v4.ownBlock = some j → w0.heap.size ≤ j := fun j hj => (hQ.lt j hj).1
   have HST := Lib.hid (And.intro hstep (And.intro hyV (And.intro htl hcV))); clear hstep hyV htl hcV
   obtain ⟨f1, f2, f3⟩ := HF.out
   have f4 : ∀ w', Ext w0 w' → w'.cell? ⟨b, off + k, none⟩ = some (.slice a2 (gt L k).length cap2) := fun w' h => h.cell hc (by simp)
   clear hc
   go_wp2
   go_region_held3 (fun w' => Ext w0 w') (first | exact grown_trans hg (grown_drew _ _) | assumption | exact grown_trans hgC (World.grownBy_alloc _ _ _))
    (first
     | (go_at_call 194; refine Calls.mono (Calls.rel2 (w0 := w0) (by assumption) (l10Conj_ok P hP _ _ _ _ (gt L k) X Any Any Any ⟨_, _, _, rfl, Pres3.ext h36 (by assumption)⟩ (Ints.sub (Ints.ext hr (by assumption)) (fun _ _ _ => trivial)) (Ints.sub (Ints.ext hx0 (by assumption)) (fun _ _ _ => trivial)) HST.out.2.1 HL.out.2.1)) ?_; rintro eC wC ⟨vC, rfl, hgC, hgC2, hsC, hOC⟩; have hgrC : Ext wr wC := grown_trans (grown_drew _ _) hgC2; have hCI : Ints (fun j => ¬ False ∧ v4.ownBlock ≠ some j) wC vC (rConj P (gt L k) X) := ints_of_own hOC (by rw [HST.out.2.2.2.1]; omega) (fun j hj => ⟨id, fun e => by have h1 := (hOC.lt j hj).1; have h2 := (hQ.lt j e).2; have h3 : wr.heap.size ≤ wr.drew.heap.size := (grown_drew wr none).size; omega⟩); obtain ⟨aC, capC, hvC, _, _⟩ := hCI.shape; subst hvC)
     | (refine step_shq_app rfl _ _ rfl (fun _ => False) w0.heap.size v4 _ ((conjL P L X).take k) _ rfl wC (hQ.ext hgrC) rfl hCI rfl HST.out.2.2.1 hgC.size ?_; intro v5 w5 hQ5 hg5 hb5; have hgw5 : Ext w0 w5 := grown_own hgC hg5 (fun j hj hlt => by have := hqlt j hj; omega)))
   clear f1 f2 f3 f4
   rw [← HST.out.1] at hQ5
   go_wp2
   go_roundw
   case rel => exact ⟨k + 1, v5, rfl, by go_num, by omega, hgw5, hQ5⟩
   case measure => simp [intOf]; omega
  ·have hke : k = L.length := by omega
   subst hke
   rw [List.take_of_length_le (by rw [HL.out.2.2.1]; exact Nat.le_refl _)] at hQ
   obtain ⟨f1, f2, f3⟩ := HF.out
   have hb0 := f1 wr hg
   have hb1 := f2 wr hg
   have hb2 := f3 wr hg
   clear f1 f2 f3
   have hQR := hQ.rows
   obtain ⟨aq, capq, hvq, _, _⟩ := Sl.shape hQR
   subst hvq
   go_wp2_with fail
   clear hb0 hb1 hb2
   refine Calls.mono (l12Close_ok P G wr _ _ (conjL P L X) Any Any ⟨_, _, _, rfl, Pres3.ext h36 hg⟩ hQR HL.out.2.2.2 (by have := HL.out.2.2.1; omega)) ?_
   rintro eF wF ⟨vF, rfl, hgF, hRF⟩
   go_wp2
   go_ret
   exact ⟨_, rfl, grown_trans hg0 (grown_trans hg hgF), hRF⟩
end Go.Proofs.YtdklekdpdbjfiaaGreat

/- The subgroup of a list. -/
namespace Go.Proofs.YtdklekdpdbjfiaaGreat
end Go.Proofs.YtdklekdpdbjfiaaGreat

/- The rows' arguments: how a presentation that came in, or a list, reads in this claim's words. -/
namespace Go.Proofs.YtdklekdpdbjfiaaGreat
open Go.RowKit Go.ChangeShapes Go.WideShapes Go.Deep
theorem cells_int64 : Tryz.prog.cellsOf 2 = 1 := by kernel_rfl
theorem cells_ints : Tryz.prog.cellsOf 22 = 1 := by kernel_rfl
theorem cells_rows : Tryz.prog.cellsOf 23 = 1 := by kernel_rfl
theorem und_int64r : Tryz.prog.underlying 2 = some (.int .i64) := by kernel_rfl
section
variable {H : Type} {enc : TypeId × Value → H} {W : World} {sp : Nat → Bool}
theorem open_sl {α : Type} [Inhabited α] {El : World → Value → α → Prop} {t e : TypeId} (ht : Tryz.prog.underlying t = some (.slice e)) (hc : Tryz.prog.cellsOf e = 1)
  (hEl : ∀ n c x, DataW.trod enc Tryz.prog W 0 sp true n e [c] = some x → ∃ y, El W c y) {fuel : Nat} {c : Value} {x : DataW H × List MemPlace} (h : DataW.trod enc Tryz.prog W 0 sp true fuel t [c] = some x) :
  ∃ xs : List α, Sl El Any W c xs := by
 rcases open_slice1 ht hc h with ⟨hcs, _⟩ | ⟨a, len, cap, m, n, V, D, Pl, hcs, _, hl, hm, hmm, _, hx⟩
 ·cases hcs
  exact ⟨[], none, 0, rfl, ⟨by simp, by simp, fun _ => rfl⟩, fun i hi => by simp at hi⟩
 ·cases hcs
  have hlm : len ≤ m := by rw [hmm]; split <;> omega
  obtain ⟨Z, hZ⟩ := choose_lt (α := α) (n := len) (p := fun i y => El W (V i) y) (fun i hi => hEl n (V i) _ (hx i (by omega)).2)
  refine ⟨(List.range len).map Z, some a, cap, by simp, ⟨by simpa using hl, by simp; unfold maxLen at hm; omega, fun h => by cases h⟩, fun i hi => ?_⟩
  simp only [List.length_map, List.length_range] at hi
  obtain ⟨h1, h2⟩ := hx i (by omega)
  obtain ⟨b, off, spot⟩ := a
  have hs : spot = none := by
   have h0 := (hx 0 (by omega)).1
   exact World.cell?_spot (by simpa [Addr.add] using h0)
  subst hs
  have hcell : W.cell? ⟨b, off + i, none⟩ = some (V i) := by
   have e : (⟨b, off, none⟩ : Addr).add i = ⟨b, off + i, none⟩ := by
    unfold Addr.add; split
    ·rename_i h; subst h; rfl
    ·rfl
   rw [← e]; exact h1
  refine ⟨b, off, V i, rfl, trivial, World.block_lt_of_cell? W _ hcell, hcell, ?_⟩
  have : gt ((List.range len).map Z) i = Z i := by simp [gt, hi]
  rw [this]; exact hZ i hi
theorem open_i64 {n : Nat} {c : Value} {x : DataW H × List MemPlace} (h : DataW.trod enc Tryz.prog W 0 sp true n 2 [c] = some x) : ∃ y, IntEl W c y := by
 cases n with
 | zero => simp [DataW.trod] at h
 | succ n =>
  unfold DataW.trod at h
  rw [und_int64r] at h
  cases c <;> simp at h
  rename_i k z
  obtain ⟨⟨rfl, _⟩, _⟩ := h
  exact ⟨z, rfl⟩
theorem open_i64s {n : Nat} {c : Value} {x : DataW H × List MemPlace} (h : DataW.trod enc Tryz.prog W 0 sp true n 22 [c] = some x) : ∃ l, Ints Any W c l :=
 open_sl und_ints cells_int64 (fun _ _ _ h => open_i64 h) h
theorem open_rows2 {n : Nat} {c : Value} {x : DataW H × List MemPlace} (h : DataW.trod enc Tryz.prog W 0 sp true n 23 [c] = some x) : ∃ l, Rows2 Any W c l :=
 open_sl (El := fun w u x => Ints Any w u x) und_rows cells_ints (fun _ _ _ h => open_i64s h) h
theorem open_rows3 {n : Nat} {c : Value} {x : DataW H × List MemPlace} (h : DataW.trod enc Tryz.prog W 0 sp true n 24 [c] = some x) : ∃ l, Rows3 Any W c l :=
 open_sl (El := fun w u x => Rows2 Any w u x) und_rows3 cells_rows (fun _ _ _ h => open_rows2 h) h
theorem cells_pres : Tryz.prog.cellsOf 26 = 3 := by kernel_rfl
set_option maxRecDepth 100000 in
theorem open_pres {base : Nat} {v : Value} {d : DataW H} {p : List MemPlace} (hv : Value.okWide Tryz.prog W .any base 26 v) (h : DataW.Trod enc Tryz.prog W 0 sp true 26 v d p) : ∃ P, PresV Any W v P := by
 obtain ⟨fs, hfs, h3⟩ : ∃ fs, Tryz.prog.underlying 26 = some (.struct fs) ∧ fs.map (fun f => (f.offset, f.type)) = #[(0, 22), (1, 23), (2, 24)] := ⟨_, Tryz.underlying26, by simp⟩
 obtain ⟨cs, rfl, hsz⟩ := okWide_struct hfs hv
 rw [cells_pres] at hsz
 obtain ⟨n, hn⟩ := h
 obtain ⟨xs, m, _, _, hl, hlen, hf⟩ := DataW.trod_struct hfs hn
 obtain ⟨c0, c1, c2, rfl⟩ : ∃ c0 c1 c2, cs = #[c0, c1, c2] := by
  match cs, hsz with
  | ⟨[c0, c1, c2]⟩, _ => exact ⟨c0, c1, c2, rfl⟩
 have hfsz : fs.size = 3 := by have := congrArg Array.size h3; simpa using this
 have hget : ∀ i (hi : i < 3), ∃ f, fs[i]? = some f ∧ (f.offset, f.type) = (#[(0, 22), (1, 23), (2, 24)] : Array (Nat × TypeId))[i]'(by simpa using hi) := fun i hi => by
  have h1 : (fs.map (fun f => (f.offset, f.type)))[i]? = (#[(0, 22), (1, 23), (2, 24)] : Array (Nat × TypeId))[i]? := by rw [h3]
  rw [Array.getElem?_map, Array.getElem?_eq_getElem (by omega), Array.getElem?_eq_getElem (by simpa using hi)] at h1
  exact ⟨_, Array.getElem?_eq_getElem (by omega), by simpa using h1⟩
 obtain ⟨f0, g0, e0⟩ := hget 0 (by omega)
 obtain ⟨f1, g1, e1⟩ := hget 1 (by omega)
 obtain ⟨f2, g2, e2⟩ := hget 2 (by omega)
 simp only [Prod.mk.injEq, List.getElem_toArray, List.getElem_cons_zero, List.getElem_cons_succ] at e0 e1 e2
 have k0 := hf 0 f0 g0
 have k1 := hf 1 f1 g1
 have k2 := hf 2 f2 g2
 rw [e0.1, e0.2, cells_ints, List.getElem?_eq_getElem (by omega)] at k0
 rw [e1.1, e1.2, cells_rows, List.getElem?_eq_getElem (by omega)] at k1
 rw [e2.1, e2.2, show Tryz.prog.cellsOf 24 = 1 by kernel_rfl, List.getElem?_eq_getElem (by omega)] at k2
 obtain ⟨o, ho⟩ := open_i64s k0
 obtain ⟨q, hq⟩ := open_rows2 k1
 obtain ⟨r, hr⟩ := open_rows3 k2
 exact ⟨⟨o, q, r⟩, c0, c1, c2, rfl, ⟨ho, hq, hr⟩⟩
end
end Go.Proofs.YtdklekdpdbjfiaaGreat
