/-
  The reference's multiplication: spec.l08At computes rAt.
  spec.IsPresentation decides the same as impl.IsPresentation.
  The reference's inverse, conjugate and power: spec.l10From, l10Inv, l10Conj, l08Repeat.
  The reference's power: spec.l08Repeat.
  The program's look at one level of a presentation: impl.levelFault.
-/
import Derived.Test.YtmjkoejegfjbbaaGreatC2
import Derived.BigRegion
namespace Go.Proofs.YtmjkoejegfjbbaaGreat
open Go.RowKit
set_option maxHeartbeats 2000000 in
theorem l08At_zero (P : Pr) (hP : Valid P) : AtOk P 0 := by
 intro w pv a b i A B Sp Sa Sb hi hp ha hb hA hB
 obtain ⟨vo, vp, vc, rfl, h3⟩ := hp
 have hn6 := hP.n6
 have hBx := PresP.box h3 39
 obtain ⟨ao, capo, hco, hoi⟩ := hBx.ordAt
 have hi2 : (i : Int) = P.orders.length := by omega
 have hi3 : ((P.orders.length : Int) ≤ (i : Int)) := by omega
 have HI := Lib.hid hi2; clear hi2
 go_enter Tryz.func331, Tryz.ntmps331
 go_wp2_with (at_make; refine wp_make_ints rfl _ _ rfl (w.heap.size + 1) P.orders.length (w.heap.size + 1) (by simp) _ rfl rfl rfl (by omega) (by simp) ?_; intro w1 ho1 hg1 _)
 go_ret
 exact ⟨_, rfl, grown_trans (World.grownBy_alloc _ _ _) hg1, ho1.weak (by omega)⟩
set_option maxHeartbeats 4000000 in
theorem l08At_succ (P : Pr) (hP : Valid P) (f : Nat) (ih : AtOk P f) : AtOk P (f + 1) := by
 intro w pv a b i A B Sp Sa Sb hi hp ha hb hA hB
 obtain ⟨vo, vp, vc, rfl, h3⟩ := hp
 have hn6 := hP.n6
 have hBx := PresP.box h3 39
 have ha0 := ha.ext (World.grownBy_alloc w (.cells #[vo, vp, vc] 39) none)
 have hb0 := hb.ext (World.grownBy_alloc w (.cells #[vo, vp, vc] 39) none)
 have hlA : A.length ≤ P.orders.length ∧ P.orders.length ≤ A.length := by rw [hA.1]; omega
 have hlB : B.length ≤ P.orders.length ∧ P.orders.length ≤ B.length := by rw [hB.1]; omega
 have hg0 : Ext w (w.alloc (.cells #[vo, vp, vc] 39)) := World.grownBy_alloc _ _ _
 have hs0 : (w.alloc (.cells #[vo, vp, vc] 39)).heap.size = w.heap.size + 1 := by simp
 have HS := Lib.hid hs0; clear hs0
 clear ha hb
 go_enter Tryz.func331, Tryz.ntmps331
 obtain ⟨ao, capo, hco, hoi⟩ := hBx.ordAt
 go_wp2_with fail
 clear hco hoi
 generalize hw0 : w.alloc (.cells #[vo, vp, vc] 39) = w0 at *
 clear hw0
 refine Calls.mono (l01Own_ok w0 a A Sa ha0 (by omega)) ?_
 rintro e1 w1 ⟨L, rfl, hg1, hL⟩
 go_wp2_with fail
 refine Calls.mono (l01Own_ok w1 b B Sb (hb0.ext hg1) (by omega)) ?_
 rintro e2 w2 ⟨R, rfl, hg2, hR⟩
 have hL2 := hL.ext0 hg2
 obtain ⟨gl, capl, rfl, hbl, hsl⟩ := hL.form (by omega)
 obtain ⟨gr, capr, rfl, hbr, hsr⟩ := hR.form (by omega)
 have hne : gl ≠ gr := by omega
 have c1 := hL2.cell i (by omega)
 have f1 := hL2.frozen i
 obtain ⟨hL3, hg3⟩ := hL2.store i 0
 have hR3 := hR.ext hg3 (.inr (by intro h; cases h; exact hne rfl))
 have c2 := hR3.cell i (by omega)
 have f2 := hR3.frozen i
 obtain ⟨hR4, hg4⟩ := hR3.store i 0
 have hL4 := hL3.ext hg4 (.inr (by intro h; cases h; exact hne rfl))
 have hg4w : Ext w0 ((w2.setCell ⟨gl, i, none⟩ (.int .i64 0)).setCell ⟨gr, i, none⟩ (.int .i64 0)) :=
  grown_own (grown_own (grown_trans hg1 hg2) hg3 (fun j hj hlt => by cases hj; omega)) hg4 (fun j hj hlt => by cases hj; have := hg1.size; omega)
 have hA1 := hA.set i 0 ⟨by omega, fun _ => by have := hP.ord7 i (by omega); omega⟩
 have hB1 := hB.set i 0 ⟨by omega, fun _ => by have := hP.ord7 i (by omega); omega⟩
 have hs1 := hg1.size
 have hs2 := hg2.size
 have hAi := hA.2 i (by omega)
 have hBi := hB.2 i (by omega)
 have hoi := hP.ord7 i (by omega)
 have hAi0 : 0 ≤ gt A i := hAi.1
 have hBi0 : 0 ≤ gt B i := hBi.1
 have hoi0 : 2 ≤ gt P.orders i := hoi.1
 have hAi1 : gt A i < gt P.orders i := hAi.2
 have hBi1 : gt B i < gt P.orders i := hBi.2
 have hoi1 : gt P.orders i ≤ 7 := hoi.2
 clear hAi hBi hoi
 go_wp2
 clear c1 f1 c2 f2 hL2 hL3 hR3 hL hR
 generalize hw4 : (w2.setCell ⟨gl, i, none⟩ (.int .i64 0)).setCell ⟨gr, i, none⟩ (.int .i64 0) = w4 at *
 clear hw4 hg3 hg4
 obtain ⟨ab, capb, rfl, _, _⟩ := hb0.shape
 obtain ⟨aa, capa, rfl, _, _⟩ := ha0.shape
 go_loopw [10, 12] (fun v mm wr => ∃ m : Nat, mm = .int .i64 m ∧ m ≤ (gt B i).toNat ∧ Ext w4 wr ∧
   Own (w.heap.size + 1) wr v (iter m (fun l => rImage P f i l) (A.set i 0))) (fun _ mm _ => (gt B i).toNat - (intOf mm).toNat)
 case atStart => exact ⟨0, rfl, by omega, Ext.refl _, hL4.weak (by have := HS.out; omega)⟩
 case round =>
  obtain ⟨m, rfl, hm, hg, hO⟩ := hrel
  have hgr : Ext w0 wr := grown_trans hg4w hg
  obtain ⟨bb, ob, rfl, _, _, hcb⟩ := Ints.at (hb0.ext hgr) i (by omega)
  have hvm : Vec P.orders (iter m (fun l => rImage P f i l) (A.set i 0)) := iter_inv (Vec P.orders) _ (fun y hy => rImgTo_vec hP f i hi (rAt_vec hP f) _ _ (zeros_vec hP) f (Nat.le_refl _)) _ _ hA1
  have HV := Lib.hid hvm
  have hOi := hO.ints (by rw [hvm.1]; omega)
  clear hvm
  obtain ⟨vo9, vp9, vc9, _, _, hc0, hc1, hc2, h39⟩ := (hBx.ext hgr).at
  by_cases hlt2 : (m : Int) < gt B i
  ·go_wp2_with fail
   refine Calls.mono (l08Image_of P hP f ih wr _ _ i _ Any Any hi ⟨_, _, _, rfl, h39⟩ hOi HV.out) ?_
   rintro e5 w5 ⟨v5, rfl, hg5, hO5⟩
   go_wp2
   go_roundw
   case rel => exact ⟨m + 1, by go_num, by omega, grown_trans hg hg5, hO5.weak (by have := hgr.size; have := HS.out; omega)⟩
   case measure => simp [intOf]; omega
  ·have hme : m = (gt B i).toNat := by omega
   subst hme
   have hR5 := hR4.ext0 hg
   generalize hleft : iter (gt B i).toNat (fun l => rImage P f i l) (A.set i 0) = left at *
   have HL := Lib.hid hleft; clear hleft
   go_wp2_with fail
   refine Calls.mono (ih wr _ _ _ (i + 1) left (B.set i 0) Any Any Any (by omega) ⟨_, _, _, rfl, h39⟩ hOi (hR5.ints (by simp; omega)) HV.out hB1) ?_
   rintro e6 w6 ⟨rest, rfl, hg6, hr6⟩
   have hgr6 : Ext w0 w6 := grown_trans hgr hg6
   obtain ⟨ba, oa, rfl, _, _, hca⟩ := Ints.at (ha0.ext hgr6) i (by omega)
   have hcb6 : w6.cell? ⟨bb, ob + i, none⟩ = some (.int .i64 (gt B i)) := hg6.cell hcb (by simp)
   have hvr := rAt_vec hP f (i + 1) _ _ (by omega) HV.out hB1
   have HVr := Lib.hid hvr; clear hvr
   clear hc0 hc1 hc2 hcb hOi hO h39 hR5 hR4 hL4 hlt2 hm
   generalize hrest : rAt P f (i + 1) left (B.set i 0) = rst at *
   have HRst := Lib.hid hrest; clear hrest
   have hil : i < A.length := by omega
   have hil2 : i < B.length := by omega
   have s1 : IntKind.i64.wrap (gt A i + gt B i) = gt A i + gt B i := IntWalk.i64_in _ (by omega)
   go_wp2
   go_quiet (fail)
   clear s1 hca hcb6
   have hfin : rAt P (f + 1) i A B = if gt P.orders i ≤ gt A i + gt B i then (rAt P f (i + 1) (gt P.powers i) rst).set i (gt A i + gt B i - gt P.orders i) else rst.set i (gt A i + gt B i) := by
    rw [← HRst.out, ← HL.out]; rfl
   have HF := Lib.hid hfin; clear hfin
   rename_i nq _
   have hgr7 : Ext w0 (w6.drewN nq) := grown_trans hgr6 (grown_drewN _ _ _)
   have hr7 : Own wr.heap.size (w6.drewN nq) rest rst := hr6
   have hri := hr7.ints (by rw [HVr.out.1]; omega)
   have hbp := hBx.ext hgr7
   obtain ⟨ao7, capo7, hco, hoi⟩ := hbp.ordAt
   obtain ⟨bo, oo, rfl, _, _, hcoi⟩ := Ints.at hoi i (by omega)
   obtain ⟨ap, capp, hcp, hpr⟩ := hbp.powAt
   obtain ⟨bp, op, ap2, capp2, rfl, _, _, hcpi, hpi⟩ := Rows2.at hpr i (by rw [hP.pl]; omega)
   have hjp : i < P.powers.length := by rw [hP.pl]; omega
   have hwsz : wr.heap.size ≤ (w6.drewN nq).heap.size := hg6.size
   clear hr6 hgr6 hbp hoi hpr
   generalize w6.drewN nq = w7 at *
   by_cases hc : gt P.orders i ≤ gt A i + gt B i
   case' pos =>
    have HF2 := Lib.hid (HF.out.trans (if_pos hc)); clear HF
    obtain ⟨vo9, vp9, vc9, _, _, hc0, hc1, hc2, h39⟩ := (hBx.ext hgr7).at
    have s3 : IntKind.i64.wrap ((i : Int) + 1) = (i : Int) + 1 := IntWalk.i64_in _ (by omega)
    have s4 : IntKind.i64.wrap (gt A i + gt B i - gt P.orders i) = gt A i + gt B i - gt P.orders i := IntWalk.i64_in _ (by omega)
    have e1 : ∀ w', Ext w7 w' → w'.cell? ⟨w.heap.size, 0, none⟩ = some vo9 := fun w' h => h.cell hc0 (by simp)
    have e2 : ∀ w', Ext w7 w' → w'.cell? ⟨w.heap.size, 1, none⟩ = some (.slice (some ⟨bp, op, none⟩) P.powers.length capp) := fun w' h => h.cell (by simpa using hcp) (by simp)
    have e3 : ∀ w', Ext w7 w' → w'.cell? ⟨w.heap.size, 2, none⟩ = some vc9 := fun w' h => h.cell (by simpa using hc2) (by simp)
    have e4 : ∀ w', Ext w7 w' → w'.cell? ⟨bp, op + i, none⟩ = some (.slice ap2 (gt P.powers i).length capp2) := fun w' h => h.cell hcpi (by simp)
    have evp : vp9 = .slice (some ⟨bp, op, none⟩) P.powers.length capp := by
     have := hc1.symm.trans hcp; simpa using this
    subst evp
    have b3 : (i : Int) < P.powers.length := by omega
    have hpv := (hP.pv i (by omega)).1
    have HPV := Lib.hid hpv; clear hpv
    clear hc2 hc1 hcp
    go_wp2
    clear hco hcoi hcpi
    go_region_held3 (fun w' => Ext w7 w') (first | exact grown_drew _ _ | exact hg8)
      (first | (go_at_call 331; refine Calls.mono (Calls.rel (w0 := w7) (by assumption) (ih _ _ _ _ (i + 1) (gt P.powers i) rst Any Any Any (by omega) ⟨_, _, _, rfl, Pres3.ext h39 (by assumption)⟩ (Ints.ext hpi (by assumption)) (Ints.ext hri (by assumption)) HPV.out HVr.out)) ?_; rintro e8 w8 ⟨v8, rfl, hg8, hsz8, hO8⟩))
    have hvp := rAt_vec hP f (i + 1) _ _ (by omega) HPV.out HVr.out
    have hlp : (rAt P f (i + 1) (gt P.powers i) rst).length = P.orders.length := hvp.1
    clear e1 e2 e3 e4 s3 s4 hvp
    go_wp2_with fail
    refine Calls.mono (l01Own_ok w8 v8 (rAt P f (i + 1) (gt P.powers i) rst) Any (hO8.ints (by omega)) (by omega)) ?_
    have hw8 : w0.heap.size ≤ w8.heap.size := by have := hgr7.size; have := hg8.size; omega
    have hgr8 : Ext w0 w8 := grown_trans hgr7 hg8
    generalize rAt P f (i + 1) (gt P.powers i) rst = fin at *
    generalize hcc : gt A i + gt B i - gt P.orders i = cc at *
   case' neg =>
    have HF2 := Lib.hid (HF.out.trans (if_neg hc)); clear HF
    have hlp : rst.length = P.orders.length := HVr.out.1
    go_wp2_with fail
    refine Calls.mono (l01Own_ok w7 rest rst Any hri (by omega)) ?_
    have hgr8 : Ext w0 w7 := hgr7
    generalize hcc : gt A i + gt B i = cc at *
    clear hri hr7 HVr HRst
    generalize rst = fin at *
   all_goals
    have HCC := Lib.hid hcc; clear hcc
    have hlp2 : fin.length ≤ P.orders.length ∧ P.orders.length ≤ fin.length := by omega
    clear hlp
    rintro e9 w9 ⟨v9, rfl, hg9, hO9⟩
    obtain ⟨g9, cap9, rfl, hb9, hs9⟩ := hO9.form (by omega)
    have c9 := hO9.cell i (by omega)
    have f9 := hO9.frozen i
    obtain ⟨hO10, hg10⟩ := hO9.store i cc
    have hfl : i < fin.length := by omega
    go_wp2
    go_ret
    refine ⟨_, rfl, ?_, ?_⟩
    ·exact grown_trans hg0 (grown_own (grown_trans hgr8 hg9) hg10 (fun j hj hlt => by cases hj; have := hgr8.size; omega))
    ·rw [HF2.out]; exact hO10.weak (by have := hgr8.size; have := HS.out; omega)
theorem l08At_ok (P : Pr) (hP : Valid P) (f : Nat) : AtOk P f := by
 induction f with
 | zero => exact l08At_zero P hP
 | succ f ih => exact l08At_succ P hP f ih
def rMul (P : Pr) (A B : List Int) : List Int := rAt P P.orders.length 0 A B
set_option maxHeartbeats 1000000 in
theorem l08Mul_ok (P : Pr) (hP : Valid P) (w : World) (pv a b : Value) (A B : List Int) (Sp Sa Sb : Nat → Prop) (hp : PresV Sp w pv P) (ha : Ints Sa w a A) (hb : Ints Sb w b B) (hA : Vec P.orders A) (hB : Vec P.orders B) :
  Calls Tryz.prog 211 #[pv, a, b] w (Ret w fun w' v => Own w.heap.size w' v (rMul P A B)) := by
 obtain ⟨vo, vp, vc, rfl, h3⟩ := hp
 go_enter Tryz.func211, Tryz.ntmps211
 obtain ⟨vo9, vp9, vc9, _, _, hc0, hc1, hc2, h39⟩ := (PresP.box h3 39).at
 go_wp2_with fail
 refine Calls.mono (l08At_ok P hP P.orders.length _ _ _ _ 0 A B Any Sa Sb (by omega) ⟨_, _, _, rfl, h39⟩ (ha.ext (World.grownBy_alloc _ _ _)) (hb.ext (World.grownBy_alloc _ _ _)) hA hB) ?_
 rintro e1 w1 ⟨v1, rfl, hg1, hO1⟩
 go_wp2
 go_ret
 exact ⟨_, rfl, grown_trans (World.grownBy_alloc _ _ _) hg1, hO1.weak (by simp)⟩
end Go.Proofs.YtmjkoejegfjbbaaGreat
namespace Go.Proofs.YtmjkoejegfjbbaaGreat
open Go.RowKit
set_option maxHeartbeats 4000000 in
theorem sIsPresentation_ok (w : World) (pv : Value) (P : Pr) (S : Nat → Prop) (hp : PresV S w pv P) :
  Calls Tryz.prog 130 #[pv] w (Ret w fun _ v => v = .bool (validB P)) := by
 obtain ⟨vo, vp, vc, rfl, h3⟩ := hp
 have hBx := PresP.box h3 39
 have hg0 : Ext w (w.alloc (.cells #[vo, vp, vc] 39)) := World.grownBy_alloc _ _ _
 go_enter Tryz.func130, Tryz.ntmps130
 obtain ⟨ao, capo, hco, hoi⟩ := hBx.ordAt
 obtain ⟨ap, capp, hcp, hpi⟩ := hBx.powAt
 obtain ⟨ac, capc, hcc, hci⟩ := hBx.conjAt
 by_cases h6 : P.orders.length ≤ 6
 rotate_left
 ·have hd : decide ((6 : Int) < (P.orders.length : Int)) = true := by simp; omega
  go_wp2
  go_ret
  exact ret_bool hg0 (validB_false (fun h => h6 h.n6)).symm
 have hd6 : decide ((6 : Int) < (P.orders.length : Int)) = false := by simp; omega
 by_cases hpl : P.powers.length = P.orders.length
 rotate_left
 ·have hd : ((P.powers.length : Int) != (P.orders.length : Int)) = true := by simp; omega
  have HP := Lib.hid hpl; clear hpl
  go_wp2
  go_ret
  exact ret_bool hg0 (validB_false (fun h => HP.out h.pl)).symm
 have hdp : ((P.powers.length : Int) != (P.orders.length : Int)) = false := by simp [hpl]
 by_cases hcl : P.conj.length = P.orders.length
 rotate_left
 ·have hd : ((P.conj.length : Int) != (P.orders.length : Int)) = true := by simp; omega
  have HP := Lib.hid hpl; clear hpl
  have HC := Lib.hid hcl; clear hcl
  go_wp2
  go_ret
  exact ret_bool hg0 (validB_false (fun h => HC.out h.cl)).symm
 have hdc : ((P.conj.length : Int) != (P.orders.length : Int)) = false := by simp [hcl]
 have hpl2 : P.powers.length ≤ P.orders.length ∧ P.orders.length ≤ P.powers.length := by omega
 have hcl2 : P.conj.length ≤ P.orders.length ∧ P.orders.length ≤ P.conj.length := by omega
 have HP := Lib.hid hpl; clear hpl
 have HC := Lib.hid hcl; clear hcl
 go_wp2
 clear hd6 hdp hdc
 generalize hw0 : w.alloc (.cells #[vo, vp, vc] 39) = w0 at *
 clear hw0
 go_loop [4] (fun i => ∃ k : Nat, i = .int .i64 k ∧ k ≤ P.orders.length ∧ ∀ i, i < k → primeB (gt P.orders i) = true) (fun i => P.orders.length - (intOf i).toNat)
 case atStart => exact ⟨0, rfl, by omega, fun i hi => by omega⟩
 case round =>
  obtain ⟨k, rfl, hk, hz⟩ := hrel
  have HZ := Lib.hid hz; clear hz
  by_cases hlt : k < P.orders.length
  ·obtain ⟨b, off, rfl, _, _, hc⟩ := Ints.at hoi k hlt
   cases hx : primeB (gt P.orders k) with
   | false =>
    have HX := Lib.hid hx
    go_wp2_with (go_at_call 252; refine (l01Prime_ok _ _).mono ?_; rintro e1 w1 ⟨rfl, rfl⟩)
    go_ret
    exact ret_bool hg0 (validB_false (fun h => by have := primeB_true.2 (h.ord k hlt); rw [HX.out] at this; cases this)).symm
   | true =>
    have HX := Lib.hid hx
    go_wp2_with (go_at_call 252; refine (l01Prime_ok _ _).mono ?_; rintro e1 w1 ⟨rfl, rfl⟩)
    go_round
    case rel => exact ⟨k + 1, by go_num, by omega, fun i hi => by
      rcases Nat.lt_or_ge i k with h1 | h1
      ·exact HZ.out i h1
      ·have : i = k := by omega
       rw [this]; exact HX.out⟩
    case measure => simp [intOf]; omega
  ·have hke : k = P.orders.length := by omega
   subst hke
   have hord : ∀ i, i < P.orders.length → 1 ≤ gt P.orders i ∧ gt P.orders i ≤ 7 := fun i hi => by have := primeB_true.1 (HZ.out i hi); omega
   have HO := Lib.hid hord; clear hord
   have hcap := capTo_le (l := P.orders) P.orders.length (fun i hi => (HO.out i hi).1)
   have HCP := Lib.hid hcap; clear hcap
   by_cases h729 : capTo P.orders P.orders.length ≤ 729
   rotate_left
   ·have hd : decide ((729 : Int) < capTo P.orders P.orders.length) = true := by simp; omega
    go_wp2_with (go_at_call 275; refine (l07Product_ok _ _ P.orders Any hoi HO.out).mono ?_; rintro e1 w1 ⟨rfl, rfl⟩)
    go_ret
    exact ret_bool hg0 (validB_false (fun h => by have := HCP.out.1.2 h.le729; omega)).symm
   have hd : decide ((729 : Int) < capTo P.orders P.orders.length) = false := by simp; omega
   go_wp2_with (go_at_call 275; refine (l07Product_ok _ _ P.orders Any hoi HO.out).mono ?_; rintro e1 w1 ⟨rfl, rfl⟩)
   have HLE := Lib.hid (HCP.out.1.1 h729)
   have hord0 : ∀ i, i < P.orders.length → 0 ≤ gt P.orders i ∧ gt P.orders i ≤ 7 := fun i hi => by have := HO.out i hi; omega
   have HO0 := Lib.hid hord0; clear hord0
   clear hcc hcp hco hd h729 HO HCP
   go_loopw [5] (fun i wr => ∃ k : Nat, i = .int .i64 k ∧ k ≤ P.orders.length ∧ Dr w0 wr ∧ ∀ i, i < k → tailB P.orders i (gt P.powers i) = true ∧ (gt P.conj i).length = P.orders.length - 1 - i ∧ ∀ j, j < P.orders.length - 1 - i → tailB P.orders i (gt (gt P.conj i) j) = true) (fun i _ => P.orders.length - (intOf i).toNat)
   case atStart => exact ⟨0, rfl, by omega, Dr.refl _, fun i hi => by omega⟩
   case round =>
    obtain ⟨k, rfl, hk, hdr, hz⟩ := hrel
    have HZ2 := Lib.hid hz; clear hz
    have hgr : Ext w wr := grown_trans hg0 hdr.ext
    by_cases hlt : k < P.orders.length
    ·obtain ⟨ao5, capo5, hco, hoi5⟩ := (hBx.ext hdr.ext).ordAt
     obtain ⟨ap, capp, hcp, hpi⟩ := (hBx.ext hdr.ext).powAt
     obtain ⟨ac, capc, hcc, hci⟩ := (hBx.ext hdr.ext).conjAt
     obtain ⟨b1, o1, a2, cap2, rfl, _, _, hc2, hi2⟩ := Rows2.at hpi k (by omega)
     obtain ⟨b3, o3, a4, cap4, rfl, _, _, hc4, hi4⟩ := Rows3.at hci k (by omega)
     have hbad1 : expZB P.orders (gt P.powers k) k = false → validB P = false := fun hx => validB_false (fun h => by have := expZB_vec.2 (h.pv k hlt); rw [hx] at this; cases this)
     have hbad2 : ¬ (gt P.conj k).length = P.orders.length - 1 - k → validB P = false := fun hx => validB_false (fun h => hx (h.cv k hlt).1)
     have hbad3 : ∀ j, j < P.orders.length - 1 - k → expZB P.orders (gt (gt P.conj k) j) k = false → validB P = false := fun j hj hx => validB_false (fun h => by have := expZB_vec.2 ((h.cv k hlt).2 j hj); rw [hx] at this; cases this)
     have HB1 := Lib.hid hbad1; have HB2 := Lib.hid hbad2; have HB3 := Lib.hid hbad3; clear hbad1 hbad2 hbad3
     have b5 : (0 : Int) ≤ k := by omega
     have b6 : (k : Int) < P.powers.length := by omega
     have b7 : (k : Int) < P.conj.length := by omega
     have s1 : IntKind.i64.wrap ((P.orders.length : Int) - 1) = (P.orders.length : Int) - 1 := IntWalk.i64_in _ (by omega)
     have s2 : IntKind.i64.wrap ((P.orders.length : Int) - 1 - k) = (P.orders.length : Int) - 1 - k := IntWalk.i64_in _ (by omega)
     cases hx : expZB P.orders (gt P.powers k) k with
     | false =>
      have HX := Lib.hid hx
      go_wp2
      go_quiet ((go_at_call 276; exact quiet_rd (l07Exponents_ok _ _ _ P.orders (gt P.powers k) k Any Any (hoi5.ext (grown_drewN _ _ _)) (hi2.ext (grown_drewN _ _ _)) HO0.out)))
      go_wp2
      go_ret
      exact ret_bool (grown_trans hgr (grown_drewN _ _ _)) (HB1.out HX.out).symm
     | true =>
      have HX := Lib.hid hx
      by_cases hlen : (gt P.conj k).length = P.orders.length - 1 - k
      ·have hd : (((gt P.conj k).length : Int) != (P.orders.length : Int) - 1 - k) = false := by simp; omega
       have hl2 : (gt P.conj k).length ≤ P.orders.length - 1 - k ∧ P.orders.length - 1 - k ≤ (gt P.conj k).length := by omega
       have HLN := Lib.hid hlen; clear hlen
       go_wp2
       go_quiet ((go_at_call 276; exact quiet_rd (l07Exponents_ok _ _ _ P.orders (gt P.powers k) k Any Any (hoi5.ext (grown_drewN _ _ _)) (hi2.ext (grown_drewN _ _ _)) HO0.out)))
       rename_i nq _
       have hdr2 := hdr.step nq
       clear hd hx hcp hc2 s1 s2 b6
       have hci9 : Rows3 Any (wr.drewN nq) (.slice (some ⟨b3, o3, none⟩) P.conj.length capc) P.conj := hci
       go_wp2
       go_loopw [6] (fun i wr => ∃ j : Nat, i = .int .i64 j ∧ j ≤ (gt P.conj k).length ∧ Dr w0 wr ∧ ∀ i, i < j → expZB P.orders (gt (gt P.conj k) i) k = true) (fun i _ => (gt P.conj k).length - (intOf i).toNat)
       case atStart => exact ⟨0, rfl, by omega, hdr2, fun i hi => by omega⟩
       case round =>
        clear hcc hc4 hi4 hi2 hci hpi hci9 hoi5
        obtain ⟨j, rfl, hj, hdr3, hz⟩ := hrel
        have HZ3 := Lib.hid hz; clear hz
        have hgr3 : Ext w wr := grown_trans hg0 hdr3.ext
        obtain ⟨ao7, capo7, hco, hoi7⟩ := (hBx.ext hdr3.ext).ordAt
        obtain ⟨ac7, capc7, hcc, hci⟩ := (hBx.ext hdr3.ext).conjAt
        obtain ⟨b8, o8, a8, cap8, rfl, _, _, hc8, hi8⟩ := Rows3.at hci k (by omega)
        by_cases hlt2 : j < (gt P.conj k).length
        ·obtain ⟨b9, o9, a9, cap9, rfl, _, _, hc9, hi9⟩ := Rows2.at hi8 j hlt2
         have b10 : (j : Int) < (gt P.conj k).length := by omega
         have b11 : (0 : Int) ≤ j := by omega
         cases hy : expZB P.orders (gt (gt P.conj k) j) k with
         | false =>
          have HY := Lib.hid hy
          go_wp2
          go_quiet ((go_at_call 276; exact quiet_rd (l07Exponents_ok _ _ _ P.orders (gt (gt P.conj k) j) k Any Any (hoi7.ext (grown_drewN _ _ _)) (hi9.ext (grown_drewN _ _ _)) HO0.out)))
          go_wp2
          go_ret
          exact ret_bool (grown_trans hgr3 (grown_drewN _ _ _)) (HB3.out j (by omega) HY.out).symm
         | true =>
          have HY := Lib.hid hy
          go_wp2
          go_quiet ((go_at_call 276; exact quiet_rd (l07Exponents_ok _ _ _ P.orders (gt (gt P.conj k) j) k Any Any (hoi7.ext (grown_drewN _ _ _)) (hi9.ext (grown_drewN _ _ _)) HO0.out)))
          go_wp2
          go_roundw
          case rel => exact ⟨j + 1, by go_num, by omega, hdr3.step _, fun i hi => by
           rcases Nat.lt_or_ge i j with h1 | h1
           ·exact HZ3.out i h1
           ·have : i = j := by omega
            rw [this]; exact HY.out⟩
          case measure => simp [intOf]; omega
        ·have hje : j = (gt P.conj k).length := by omega
         go_wp2
         go_roundw
         case rel => exact ⟨k + 1, by go_num, by omega, hdr3, fun i hi => by
          rcases Nat.lt_or_ge i k with h1 | h1
          ·exact HZ2.out i h1
          ·have : i = k := by omega
           rw [this]; exact ⟨tailB_vec.2 (expZB_vec.1 HX.out), HLN.out, fun i hi => tailB_vec.2 (expZB_vec.1 (HZ3.out i (by omega)))⟩⟩
         case measure => simp [intOf]; omega
      ·have hd : (((gt P.conj k).length : Int) != (P.orders.length : Int) - 1 - k) = true := by simp; omega
       have HLN := Lib.hid hlen; clear hlen
       go_wp2
       go_quiet ((go_at_call 276; exact quiet_rd (l07Exponents_ok _ _ _ P.orders (gt P.powers k) k Any Any (hoi5.ext (grown_drewN _ _ _)) (hi2.ext (grown_drewN _ _ _)) HO0.out)))
       go_wp2
       go_ret
       exact ret_bool (grown_trans hgr (grown_drewN _ _ _)) (HB2.out HLN.out).symm
    ·have hke : k = P.orders.length := by omega
     subst hke
     go_wp2
     go_ret
     refine ret_bool hgr (validB_true ?_).symm
     exact ⟨HLE.out, h6, HP.out, HC.out, fun i hi => primeB_true.1 (HZ.out i hi), fun i hi => tailB_vec.1 (HZ2.out i hi).1,
      fun i hi => ⟨(HZ2.out i hi).2.1, fun j hj => tailB_vec.1 ((HZ2.out i hi).2.2 j hj)⟩⟩
end Go.Proofs.YtmjkoejegfjbbaaGreat
namespace Go.Proofs.YtmjkoejegfjbbaaGreat
open Go.RowKit
def rFrom (P : Pr) : Nat → Nat → List Int → List Int
 | 0, _, _ => zeros P.orders.length
 | f + 1, i, X =>
  let out := rFrom P f (i + 1) (X.set i 0)
  if gt X i = 0 then out else
   rAt P (f + 1) i (rAt P (f + 1) i out ((zeros P.orders.length).set i (gt P.orders i - gt X i))) (rFrom P f (i + 1) (gt P.powers i))
theorem rFrom_vec {P : Pr} (hP : Valid P) (f : Nat) : ∀ i X, i + f = P.orders.length → Vec P.orders X → Vec P.orders (rFrom P f i X) := by
 induction f with
 | zero => intro i X _ _; exact zeros_vec hP
 | succ f ih =>
  intro i X hi hX
  have ho := hP.ord7 i (by omega)
  have hx := hX.2 i (by omega)
  have h1 := ih (i + 1) (X.set i 0) (by omega) (hX.set i 0 ⟨by omega, fun _ => by omega⟩)
  simp only [rFrom]
  split
  ·exact h1
  ·exact rAt_vec hP _ _ _ _ hi (rAt_vec hP _ _ _ _ hi h1 ((zeros_vec hP).set i _ ⟨by omega, fun _ => by omega⟩)) (ih (i + 1) _ (by omega) (hP.pv i (by omega)).1)
def FromOk (P : Pr) (f : Nat) : Prop :=
 ∀ (w : World) (pv x : Value) (i : Nat) (X : List Int) (Sp Sx : Nat → Prop), i + f = P.orders.length → PresV Sp w pv P → Ints Sx w x X → Vec P.orders X →
  Calls Tryz.prog 284 #[pv, .int .i64 i, x] w (Ret w fun w' v => Own w.heap.size w' v (rFrom P f i X))
set_option maxHeartbeats 2000000 in
theorem l10From_zero (P : Pr) (hP : Valid P) : FromOk P 0 := by
 intro w pv x i X Sp Sx hi hp hx hX
 obtain ⟨vo, vp, vc, rfl, h3⟩ := hp
 have hn6 := hP.n6
 have hBx := PresP.box h3 39
 obtain ⟨ao, capo, hco, hoi⟩ := hBx.ordAt
 have hi3 : ((P.orders.length : Int) ≤ (i : Int)) := by omega
 go_enter Tryz.func284, Tryz.ntmps284
 go_wp2_with (at_make; refine wp_make_ints rfl _ _ rfl (w.heap.size + 1) P.orders.length (w.heap.size + 1) (by simp) _ rfl rfl rfl (by omega) (by simp) ?_; intro w1 ho1 hg1 _)
 go_ret
 exact ⟨_, rfl, grown_trans (World.grownBy_alloc _ _ _) hg1, ho1.weak (by omega)⟩
set_option maxHeartbeats 4000000 in
theorem l10From_succ (P : Pr) (hP : Valid P) (f : Nat) (ih : FromOk P f) : FromOk P (f + 1) := by
 intro w pv x i X Sp Sx hi hp hx hX
 obtain ⟨vo, vp, vc, rfl, h3⟩ := hp
 have hn6 := hP.n6
 have hBx := PresP.box h3 39
 have hg0 : Ext w (w.alloc (.cells #[vo, vp, vc] 39)) := World.grownBy_alloc _ _ _
 have hx0 := hx.ext hg0
 have hlX : X.length ≤ P.orders.length ∧ P.orders.length ≤ X.length := by rw [hX.1]; omega
 have hs0 : (w.alloc (.cells #[vo, vp, vc] 39)).heap.size = w.heap.size + 1 := by simp
 have HS := Lib.hid hs0; clear hs0 hx
 obtain ⟨ax, capx, rfl, _, _⟩ := hx0.shape
 go_enter Tryz.func284, Tryz.ntmps284
 obtain ⟨ao, capo, hco, hoi⟩ := hBx.ordAt
 go_wp2_with fail
 clear hco hoi
 generalize hw0 : w.alloc (.cells #[vo, vp, vc] 39) = w0 at *
 clear hw0
 refine Calls.mono (l01Own_ok w0 _ X Sx hx0 (by omega)) ?_
 rintro e1 w1 ⟨R, rfl, hg1, hR⟩
 obtain ⟨gr, capr, rfl, hbr, hsr⟩ := hR.form (by omega)
 have c1 := hR.cell i (by omega)
 have f1 := hR.frozen i
 obtain ⟨hR2, hg2⟩ := hR.store i 0
 have hgw : Ext w0 (w1.setCell ⟨gr, i, none⟩ (.int .i64 0)) := grown_own hg1 hg2 (fun j hj hlt => by cases hj; omega)
 obtain ⟨vo9, vp9, vc9, _, _, hc0, hc1, hc2, h39⟩ := (hBx.ext hgw).at
 have ho7 := hP.ord7 i (by omega)
 have hxi := hX.2 i (by omega)
 have hx1 : 0 ≤ gt X i := hxi.1
 have hx2 : gt X i < gt P.orders i := hxi.2
 have ho2 : 2 ≤ gt P.orders i := ho7.1
 have ho3 : gt P.orders i ≤ 7 := ho7.2
 have hX1 := hX.set i 0 ⟨by omega, fun _ => by omega⟩
 clear hxi ho7
 go_wp2_with fail
 clear c1 f1 hc0 hc1 hc2
 generalize hw2 : w1.setCell ⟨gr, i, none⟩ (.int .i64 0) = w2 at *
 clear hw2
 refine Calls.mono (ih w2 _ _ (i + 1) (X.set i 0) Any Any (by omega) ⟨_, _, _, rfl, h39⟩ (hR2.ints (by simp; omega)) hX1) ?_
 rintro e3 w3 ⟨out, rfl, hg3, hO3⟩
 have hgw3 : Ext w0 w3 := grown_trans hgw hg3
 obtain ⟨bx, ox, rfl, _, _, hcx⟩ := Ints.at (hx0.ext hgw3) i (by omega)
 by_cases hz : gt X i = 0
 ·have hb : (gt X i == 0) = true := by simp [hz]
  have HZ := Lib.hid hz; clear hz
  go_wp2
  go_ret
  exact ⟨_, rfl, grown_trans hg0 hgw3, by simp only [rFrom, if_pos HZ.out]; exact hO3.weak (by have := hgw.size; have := HS.out; omega)⟩
 ·have hb : (gt X i == 0) = false := by simp [hz]
  have HZ := Lib.hid hz; clear hz
  have hsz3 : w0.heap.size ≤ w3.heap.size := hgw3.size
  go_wp2_with (at_make; refine wp_make_ints rfl _ _ rfl w3.heap.size P.orders.length w3.heap.size rfl _ rfl rfl rfl (by omega) (by simp) ?_; intro w4 ho4 hg4 hlt4)
  clear hcx hb
  have hgw4 : Ext w0 w4 := grown_trans hgw3 hg4
  obtain ⟨ao4, capo4, hco, hoi⟩ := hBx.ordAt
  obtain ⟨bo, oo, rfl, _, _, hcoi⟩ := Ints.at hoi i (by omega)
  obtain ⟨bx4, ox4, hxe, _, _, hcx⟩ := Ints.at hx0 i (by omega)
  obtain ⟨rfl, rfl⟩ : bx4 = bx ∧ ox4 = ox := by cases hxe; exact ⟨rfl, rfl⟩
  clear hxe
  have c4 := ho4.cell i (by simp; omega)
  have f4 := ho4.frozen i
  obtain ⟨ho5, hst⟩ := ho4.store i (gt P.orders i - gt X i)
  have hi1 : (i : Int) < P.orders.length := by omega
  have hi2 : (i : Int) < X.length := by omega
  have hi0 : (0 : Int) ≤ i := by omega
  have s1 : IntKind.i64.wrap (gt P.orders i - gt X i) = gt P.orders i - gt X i := IntWalk.i64_in _ (by omega)
  have hkeep : Ext w0 (w4.setCell ⟨w3.heap.size, i, none⟩ (.int .i64 (gt P.orders i - gt X i))).drew :=
   grown_trans (grown_own hgw4 hst (fun j hj hlt => by cases hj; omega)) (grown_drew _ _)
  have hg36 : Ext w3 (w4.setCell ⟨w3.heap.size, i, none⟩ (.int .i64 (gt P.orders i - gt X i))).drew :=
   grown_trans (grown_own hg4 hst (fun j hj hlt => by cases hj; omega)) (grown_drew _ _)
  have ho6 : Own w3.heap.size (w4.setCell ⟨w3.heap.size, i, none⟩ (.int .i64 (gt P.orders i - gt X i))).drew (.slice (some ⟨w3.heap.size, 0, none⟩) P.orders.length P.orders.length) ((List.replicate P.orders.length 0).set i (gt P.orders i - gt X i)) := ho5
  have e1 : ∀ w', Ext w0 w' → w'.cell? ⟨w.heap.size, 0, none⟩ = some (.slice (some ⟨bo, oo, none⟩) P.orders.length capo4) := fun w' h => h.cell hco (by simp)
  have e2 : ∀ w', Ext w0 w' → w'.cell? ⟨bo, oo + i, none⟩ = some (.int .i64 (gt P.orders i)) := fun w' h => h.cell hcoi (by simp)
  have e3 : ∀ w', Ext w0 w' → w'.cell? ⟨bx4, ox4 + i, none⟩ = some (.int .i64 (gt X i)) := fun w' h => h.cell hcx (by simp)
  clear hco hcoi hcx
  go_region_held3 (fun w' => Ext w0 w') (first | exact grown_trans hgw4 (grown_drew _ _) | exact hkeep) (fail)
  clear e1 e2 e3 s1 c4 f4
  clear hst ho5
  generalize hw6 : (w4.setCell ⟨w3.heap.size, i, none⟩ (.int .i64 (gt P.orders i - gt X i))).drew = w6 at *
  clear hw6
  obtain ⟨vo6, vp6, vc6, _, _, hc0, hc1, hc2, h36⟩ := (hBx.ext hkeep).at
  obtain ⟨ap, capp, rfl, _, _⟩ := Sl.shape h36.p
  obtain ⟨bp, op, ap2, capp2, rfl, _, _, hcpi, hpi⟩ := Rows2.at h36.p i (by rw [hP.pl]; omega)
  have hjp : (i : Int) < P.powers.length := by rw [hP.pl]; omega
  have hvo := rFrom_vec hP f (i + 1) _ (by omega) hX1
  have hvt : Vec P.orders ((zeros P.orders.length).set i (gt P.orders i - gt X i)) := (zeros_vec hP).set i _ ⟨by omega, fun _ => by have := HZ.out; omega⟩
  have hvm := rAt_vec hP (f + 1) i _ _ hi hvo hvt
  have hvp := (hP.pv i (by omega)).1
  have hvf := rFrom_vec hP f (i + 1) _ (by omega) hvp
  have hl1 := hvo.1
  have hl2 := hvm.1
  have hl3 := hvf.1
  have hoi := (hO3.ext0 hg36).ints (by omega)
  have hti : Ints Any w6 (.slice (some ⟨w3.heap.size, 0, none⟩) P.orders.length P.orders.length) ((zeros P.orders.length).set i (gt P.orders i - gt X i)) := Own.ints ho6 (by rw [List.length_set]; simp [zeros]; omega)
  have HV1 := Lib.hid hvo; have HV2 := Lib.hid hvt; have HV3 := Lib.hid hvm; have HV4 := Lib.hid hvp; have HV5 := Lib.hid hvf
  have HL1 := Lib.hid hl1; have HL2 := Lib.hid hl2; have HL3 := Lib.hid hl3
  clear hvo hvt hvm hvp hvf hl1 hl2 hl3 hgw hgw3 hgw4 hO3 ho6 ho4 hR2
  have hsz6 : w.heap.size ≤ w6.heap.size := by have := hkeep.size; have := HS.out; omega
  have e1 : ∀ w', Ext w6 w' → w'.cell? ⟨w.heap.size, 0, none⟩ = some vo6 := fun w' h => h.cell hc0 (by simp)
  have e2 : ∀ w', Ext w6 w' → w'.cell? ⟨w.heap.size, 1, none⟩ = some (.slice (some ⟨bp, op, none⟩) P.powers.length capp) := fun w' h => h.cell (by simpa using hc1) (by simp)
  have e3 : ∀ w', Ext w6 w' → w'.cell? ⟨w.heap.size, 2, none⟩ = some vc6 := fun w' h => h.cell (by simpa using hc2) (by simp)
  have e4 : ∀ w', Ext w6 w' → w'.cell? ⟨bp, op + i, none⟩ = some (.slice ap2 (gt P.powers i).length capp2) := fun w' h => h.cell hcpi (by simp)
  have s3 : IntKind.i64.wrap ((i : Int) + 1) = (i : Int) + 1 := IntWalk.i64_in _ (by omega)
  clear hc0 hc1 hc2 hcpi
  go_wp2
  go_region_held3 (fun w' => Ext w6 w') (first | exact grown_drew _ _ | assumption)
   (first
    | (go_at_call_of 331 (out); refine Calls.mono (Calls.rel (w0 := w6) (by assumption) (l08At_ok P hP (f + 1) _ _ _ _ i _ _ Any Any Any hi ⟨_, _, _, rfl, Pres3.ext h36 (by assumption)⟩ (Ints.ext hoi (by assumption)) (Ints.ext hti (by assumption)) HV1.out HV2.out)) ?_; rintro eA wA ⟨vA, rfl, hgA, hsA, hOA⟩)
    | (go_at_call 284; refine Calls.mono (Calls.rel2 (w0 := w6) (by assumption) (ih _ _ _ (i + 1) _ Any Any (by omega) ⟨_, _, _, rfl, Pres3.ext h36 (by assumption)⟩ (Ints.ext hpi (by assumption)) HV4.out)) ?_; rintro eF wF ⟨vF, rfl, hgF, hgF2, hsF, hOF⟩; have hOA2 := (hOA.ext0 hgF2).ints (by rw [HL2.out]; omega); have hOF2 := hOF.ints (by rw [HL3.out]; omega))
    | (go_at_call 331; refine Calls.mono (Calls.rel (w0 := w6) (by assumption) (l08At_ok P hP (f + 1) _ _ _ _ i _ _ Any Any Any hi ⟨_, _, _, rfl, Pres3.ext h36 (by assumption)⟩ hOA2 hOF2 HV3.out HV5.out)) ?_; rintro eB wB ⟨vB, rfl, hgB, hsB, hOB⟩))
  go_wp2
  go_ret
  refine ⟨_, rfl, grown_trans hg0 (grown_trans hkeep hgB), ?_⟩
  simp only [rFrom, if_neg HZ.out]
  exact hOB.weak (by omega)
theorem l10From_ok (P : Pr) (hP : Valid P) (f : Nat) : FromOk P f := by
 induction f with
 | zero => exact l10From_zero P hP
 | succ f ih => exact l10From_succ P hP f ih
def rInv (P : Pr) (X : List Int) : List Int := rFrom P P.orders.length 0 X
theorem rInv_vec {P : Pr} (hP : Valid P) (X : List Int) (hX : Vec P.orders X) : Vec P.orders (rInv P X) := rFrom_vec hP _ 0 X (by omega) hX
set_option maxHeartbeats 1000000 in
theorem l10Inv_ok (P : Pr) (hP : Valid P) (w : World) (pv x : Value) (X : List Int) (Sp Sx : Nat → Prop) (hp : PresV Sp w pv P) (hx : Ints Sx w x X) (hX : Vec P.orders X) :
  Calls Tryz.prog 140 #[pv, x] w (Ret w fun w' v => Own w.heap.size w' v (rInv P X)) := by
 obtain ⟨vo, vp, vc, rfl, h3⟩ := hp
 go_enter Tryz.func140, Tryz.ntmps140
 obtain ⟨vo9, vp9, vc9, _, _, hc0, hc1, hc2, h39⟩ := (PresP.box h3 39).at
 go_wp2_with fail
 refine Calls.mono (l10From_ok P hP P.orders.length _ _ _ 0 X Any Sx (by omega) ⟨_, _, _, rfl, h39⟩ (hx.ext (World.grownBy_alloc _ _ _)) hX) ?_
 rintro e1 w1 ⟨v1, rfl, hg1, hO1⟩
 go_wp2
 go_ret
 exact ⟨_, rfl, grown_trans (World.grownBy_alloc _ _ _) hg1, hO1.weak (by simp)⟩
def rConj (P : Pr) (A B : List Int) : List Int := rMul P (rInv P B) (rMul P A B)
end Go.Proofs.YtmjkoejegfjbbaaGreat
namespace Go.Proofs.YtmjkoejegfjbbaaGreat
open Go.RowKit
def rRepF (m : List Int → List Int → List Int) : Nat → List Int → List Int → Nat → List Int
 | 0, out, _, _ => out
 | f + 1, out, base, k => if k = 0 then out else rRepF m f (if k % 2 = 1 then m out base else out) (m base base) (k / 2)
def rRep (m : List Int → List Int → List Int) (out base : List Int) (k : Nat) : List Int := rRepF m k out base k
theorem rRepF_eq (m : List Int → List Int → List Int) : ∀ (f g : Nat) (out base : List Int) (k : Nat), k ≤ f → k ≤ g → rRepF m f out base k = rRepF m g out base k := by
 intro f
 induction f with
 | zero =>
  intro g out base k hf hg
  have : k = 0 := by omega
  subst this
  cases g <;> simp [rRepF]
 | succ f ih =>
  intro g out base k hf hg
  cases g with
  | zero =>
   have : k = 0 := by omega
   subst this; simp [rRepF]
  | succ g =>
   simp only [rRepF]
   split
   ·rfl
   ·exact ih g _ _ _ (by omega) (by omega)
theorem rRep_step (m : List Int → List Int → List Int) (out base : List Int) (k : Nat) (hk : 0 < k) : rRep m out base k = rRep m (if k % 2 = 1 then m out base else out) (m base base) (k / 2) := by
 unfold rRep
 obtain ⟨j, rfl⟩ : ∃ j, k = j + 1 := ⟨k - 1, by omega⟩
 show (if j + 1 = 0 then out else rRepF m j _ _ ((j + 1) / 2)) = _
 rw [if_neg (by omega)]
 exact rRepF_eq m _ _ _ _ _ (by omega) (Nat.le_refl _)
set_option maxHeartbeats 2000000 in
theorem l08Repeat_ok (P : Pr) (hP : Valid P) (w : World) (pv x : Value) (i f : Nat) (hi : i + f = P.orders.length) (X : List Int) (k : Int) (Sp Sx : Nat → Prop) (hp : PresV Sp w pv P) (hx : Ints Sx w x X) (hX : Vec P.orders X) (hk0 : 0 ≤ k) (hk : k ≤ 1000000000) :
  Calls Tryz.prog 376 #[pv, .int .i64 i, x, .int .i64 k] w (Ret w fun w' v => Own w.heap.size w' v (rRep (rAt P f i) (zeros P.orders.length) X k.toNat)) := by
 obtain ⟨vo, vp, vc, rfl, h3⟩ := hp
 have hn6 := hP.n6
 have hBx := PresP.box h3 39
 have hg0 : Ext w (w.alloc (.cells #[vo, vp, vc] 39)) := World.grownBy_alloc _ _ _
 have hx0 := hx.ext hg0
 have hlX : X.length ≤ P.orders.length ∧ P.orders.length ≤ X.length := by rw [hX.1]; omega
 have hs0 : (w.alloc (.cells #[vo, vp, vc] 39)).heap.size = w.heap.size + 1 := by simp
 have HS := Lib.hid hs0; clear hs0 hx
 go_enter Tryz.func376, Tryz.ntmps376
 obtain ⟨ao, capo, hco, hoi⟩ := hBx.ordAt
 go_wp2_with (at_make; refine wp_make_ints rfl _ _ rfl (w.heap.size + 1) P.orders.length (w.heap.size + 1) (by simp) _ rfl rfl rfl (by omega) (by simp) ?_; intro w1 ho1 hg1 hlt1)
 clear hco hoi
 have hBx1 := hBx.ext hg1
 have hx1 := hx0.ext hg1
 have hgw1 : Ext w w1 := grown_trans hg0 hg1
 obtain ⟨ax, capx, rfl, _, _⟩ := hx1.shape
 clear hBx hx0 hg1 hg0
 generalize hres : rRep (rAt P f i) (zeros P.orders.length) X k.toNat = res at *
 have HRes := Lib.hid hres; clear hres
 have hs1 : w.heap.size ≤ w1.heap.size := hgw1.size
 go_loopw [3, 9, 10] (fun kv ov bv wr => ∃ (m : Nat) (O B : List Int), kv = .int .i64 m ∧ m ≤ k.toNat ∧ Ext w1 wr ∧ Own w.heap.size wr ov O ∧ Ints Any wr bv B ∧ Vec P.orders O ∧ Vec P.orders B ∧ rRep (rAt P f i) O B m = res) (fun kv _ _ _ => (intOf kv).toNat)
 case atStart => exact ⟨k.toNat, _, X, by congr 1; omega, Nat.le_refl _, Ext.refl _, ho1.weak (by omega), Ints.sub hx1 (fun _ _ _ => trivial), zeros_vec hP, hX, HRes.out⟩
 case round =>
  obtain ⟨m, O, B, rfl, hm, hg, hO, hB, hvO, hvB, hr⟩ := hrel
  have HVO := Lib.hid hvO; have HVB := Lib.hid hvB; have HR := Lib.hid hr; clear hr
  obtain ⟨vo9, vp9, vc9, _, _, hc0, hc1, hc2, h39⟩ := (hBx1.ext hg).at
  obtain ⟨ab, capb, rfl, _, _⟩ := hB.shape
  have hOi := hO.ints (by rw [hvO.1]; omega)
  have hlB := hvB.1
  clear hvO hvB
  have HLB := Lib.hid hlB; clear hlB
  by_cases hm0 : 0 < m
  ·by_cases hodd : m % 2 = 1
   ·have hb : (((m : Int).tmod 2) == 1) = true := by
     rw [Int.tmod_eq_emod_of_nonneg (by omega)]; simp; omega
    have hb2 : (((m : Int) % 2) == 1) = true := by simp; omega
    have HOD := Lib.hid hodd; clear hodd
    go_wp2_with fail
    refine Calls.mono (l08At_ok P hP f wr _ _ _ i O B Any Any Any hi ⟨_, _, _, rfl, h39⟩ hOi hB HVO.out HVB.out) ?_
    rintro e2 w2 ⟨v2, rfl, hg2, hO2⟩
    have hc02 := hg2.cell hc0 (by simp)
    have hc12 := hg2.cell hc1 (by simp)
    have hc22 := hg2.cell hc2 (by simp)
    go_wp2_with fail
    refine Calls.mono (l08At_ok P hP f w2 _ _ _ i B B Any Any Any hi ⟨_, _, _, rfl, h39.ext hg2⟩ (hB.ext hg2) (hB.ext hg2) HVB.out HVB.out) ?_
    rintro e3 w3 ⟨v3, rfl, hg3, hO3⟩
    have hvb3 := rAt_vec hP f i B B hi HVB.out HVB.out
    have hB3 := hO3.ints (by rw [hvb3.1]; omega)
    have HV3 := Lib.hid hvb3; clear hvb3 hb hb2
    have hO2' := (hO2.ext0 hg3).weak (base' := w.heap.size) (by have := hg.size; omega)
    go_wp2
    go_roundw
    case rel => exact ⟨m / 2, _, _, by first | rfl | (congr 1; omega) | congr 1, by omega, grown_trans (grown_trans hg hg2) hg3, hO2', hB3, rAt_vec hP f i O B hi HVO.out HVB.out, HV3.out, by rw [← HR.out, rRep_step _ O B m hm0, if_pos HOD.out]⟩
    case measure => simp [intOf]; omega
   ·have hb : (((m : Int).tmod 2) == 1) = false := by
     rw [Int.tmod_eq_emod_of_nonneg (by omega)]; simp; omega
    have hb2 : (((m : Int) % 2) == 1) = false := by simp; omega
    have HOD := Lib.hid hodd; clear hodd
    go_wp2_with fail
    refine Calls.mono (l08At_ok P hP f wr _ _ _ i B B Any Any Any hi ⟨_, _, _, rfl, h39⟩ hB hB HVB.out HVB.out) ?_
    rintro e3 w3 ⟨v3, rfl, hg3, hO3⟩
    have hvb3 := rAt_vec hP f i B B hi HVB.out HVB.out
    have hB3 := hO3.ints (by rw [hvb3.1]; omega)
    have HV3 := Lib.hid hvb3; clear hvb3 hb hb2
    have hO2' := hO.ext0 hg3
    go_wp2
    go_roundw
    case rel => exact ⟨m / 2, _, _, by first | rfl | (congr 1; omega) | congr 1, by omega, grown_trans hg hg3, hO2', hB3, HVO.out, HV3.out, by rw [← HR.out, rRep_step _ O B m hm0, if_neg HOD.out]⟩
    case measure => simp [intOf]; omega
  ·have hm1 : m = 0 := by omega
   subst hm1
   have HO : Hid (Own w.heap.size wr u9 res) := by rw [← HR.out]; exact hO
   go_wp2
   go_ret
   exact ⟨_, rfl, grown_trans hgw1 hg, by show Own _ _ _ _; rw [HRes.out]; exact HO.out⟩
end Go.Proofs.YtmjkoejegfjbbaaGreat
namespace Go.Proofs.YtmjkoejegfjbbaaGreat
open Go.RowKit
def ICond1 (P : Pr) (i J : Nat) : Prop := iPow P (gt (gt P.conj i) (J - i - 1)) (gt P.orders J) = iImg P i (gt P.powers J)
def ICond2 (P : Pr) (i J K : Nat) : Prop := iConj P (gt (gt P.conj i) (K - i - 1)) (gt (gt P.conj i) (J - i - 1)) = iImg P i (gt (gt P.conj J) (K - J - 1))
def ICond3 (P : Pr) (i : Nat) : Prop := iImg P i (gt P.powers i) = gt P.powers i
def ICond4 (P : Pr) (i J : Nat) : Prop := iter (gt P.orders i).toNat (fun x => iImg P i x) (unitV P.orders.length J) = iConj P (unitV P.orders.length J) (gt P.powers i)
structure ILevel (P : Pr) (i : Nat) : Prop where
 c1 : ∀ J, i < J → J < P.orders.length → ICond1 P i J
 c2 : ∀ J K, i < J → J < K → K < P.orders.length → ICond2 P i J K
 c3 : ICond3 P i
 c4 : ∀ J, i < J → J < P.orders.length → ICond4 P i J
theorem frozen_ext {w w' : World} {a : Addr} (hg : Ext w w') (h : w.frozen? a = false) (hb : a.block < w.heap.size) : w'.frozen? a = false := by
 rw [World.frozen?_of_block (w := w) (hg.block a.block hb (by simp))]; exact h
theorem ext_set4 {w wB : World} {rc : Nat} (hg : Ext w wB) (hrc : w.heap.size ≤ rc) (a b c d : Value) :
  Ext w ((((wB.setCell ⟨rc, 0, none⟩ a).setCell ⟨rc, 1, none⟩ b).setCell ⟨rc, 2, none⟩ c).setCell ⟨rc, 3, none⟩ d) := by
 have h1 : ∀ (W : World) (k : Nat) (v : Value), W.grownBy (W.setCell ⟨rc, k, none⟩ v) (some rc) := fun W k v =>
  ⟨rfl, rfl, rfl, by simp [World.setCell], fun j _ hj => Below.heap_setCell _ _ _ _ (by intro e; exact hj (by rw [e]))⟩
 have hne : ∀ j, some rc = some j → j < w.heap.size → none = some j := fun j hj hlt => by cases hj; omega
 exact grown_own (grown_own (grown_own (grown_own hg (h1 _ _ _) hne) (h1 _ _ _) hne) (h1 _ _ _) hne) (h1 _ _ _) hne
def fault0 : Value := .agg #[.int .i64 0, .int .i64 0, .int .i64 0, .int .i64 0]
def FaultR (good : Prop) (v : Value) : Prop := (good ∧ v = fault0) ∨ (¬ good ∧ ∃ a b c d : Int, a ≠ 0 ∧ v = .agg #[.int .i64 a, .int .i64 b, .int .i64 c, .int .i64 d])
theorem iImg_vec {P : Pr} (hP : Valid P) (i : Nat) (hi : i < P.orders.length) (x : List Int) (hx : Vec P.orders x) : Vec P.orders (iImg P i x) :=
 iImgTo_vec hP i hi x _ (zeros_vec' hP hx) _ (Nat.le_refl _)
theorem iConj_vec {P : Pr} (hP : Valid P) (a b : List Int) (ha : Vec P.orders a) (hb : Vec P.orders b) : Vec P.orders (iConj P a b) :=
 tv_vec hP _ _ (iInv_vec hP b hb) (tv_vec hP a b ha hb)
theorem unitV_vec {P : Pr} (hP : Valid P) (j : Nat) : Vec P.orders (unitV P.orders.length j) := by
 refine ⟨by simp [unitV], fun i hi => ?_⟩
 have := hP.ord7 i hi
 by_cases h : j = i
 ·subst h; unfold unitV; rw [gt_set_eq _ _ _ (by simpa using hi)]; omega
 ·unfold unitV; rw [gt_set_ne _ _ _ _ h, gt_replicate]; omega
set_option maxRecDepth 100000 in
set_option maxHeartbeats 8000000 in
theorem levelFault_ok (P : Pr) (hP : Valid P) (w : World) (p : Value) (i : Nat) (Sp : Nat → Prop) (hp : PresP Sp w p P) (hi : i < P.orders.length) :
  Calls Tryz.prog 299 #[p, .int .i64 i] w (Ret w fun _ v => FaultR (ILevel P i) v) := by
 have hn6 := hP.n6
 obtain ⟨pb, po, rfl⟩ := hp.shape
 have hg0 : Ext w (w.alloc (.cells #[.int .i64 0, .int .i64 0, .int .i64 0, .int .i64 0] 262)) := World.grownBy_alloc _ _ _
 have hp0 := hp.ext hg0
 obtain ⟨ao, capo, hco, hoi⟩ := hp0.ordAt
 go_enter Tryz.func299, Tryz.ntmps299
 go_wp2
 clear hco hoi
 have r0 : (w.alloc (.cells #[.int .i64 0, .int .i64 0, .int .i64 0, .int .i64 0] 262)).cell? ⟨w.heap.size, 0, none⟩ = some (.int .i64 0) := by rw [World.cell?_alloc_at _ _ _ _ rfl]; rfl
 have r1 : (w.alloc (.cells #[.int .i64 0, .int .i64 0, .int .i64 0, .int .i64 0] 262)).cell? ⟨w.heap.size, 1, none⟩ = some (.int .i64 0) := by rw [World.cell?_alloc_at _ _ _ _ rfl]; rfl
 have r2 : (w.alloc (.cells #[.int .i64 0, .int .i64 0, .int .i64 0, .int .i64 0] 262)).cell? ⟨w.heap.size, 2, none⟩ = some (.int .i64 0) := by rw [World.cell?_alloc_at _ _ _ _ rfl]; rfl
 have r3 : (w.alloc (.cells #[.int .i64 0, .int .i64 0, .int .i64 0, .int .i64 0] 262)).cell? ⟨w.heap.size, 3, none⟩ = some (.int .i64 0) := by rw [World.cell?_alloc_at _ _ _ _ rfl]; rfl
 have rf : ∀ k, (w.alloc (.cells #[.int .i64 0, .int .i64 0, .int .i64 0, .int .i64 0] 262)).frozen? ⟨w.heap.size, k, none⟩ = false := fun k => World.frozen?_alloc_at _ _ _ _ rfl
 have rs : w.heap.size < (w.alloc (.cells #[.int .i64 0, .int .i64 0, .int .i64 0, .int .i64 0] 262)).heap.size := by simp
 generalize w.alloc (.cells #[.int .i64 0, .int .i64 0, .int .i64 0, .int .i64 0] 262) = w0 at *
 have RR := Lib.hid (And.intro r0 (And.intro r1 (And.intro r2 (And.intro r3 rf)))); clear r0 r1 r2 r3 rf
 have hvw := (hP.pv i hi).1
 have HVW := Lib.hid hvw; clear hvw
 have hcl := hP.cl
 have hpl := hP.pl
 have hic : i < P.conj.length := by omega
 have hip : i < P.powers.length := by omega
 have hcv := hP.cv i hi
 have HCV := Lib.hid hcv; clear hcv
 have HCL := Lib.hid hcl; have HPL := Lib.hid hpl; clear hcl hpl
 go_loopw [7] (fun jv wr => ∃ J : Nat, jv = .int .i64 J ∧ i + 1 ≤ J ∧ J ≤ P.orders.length ∧ Ext w0 wr ∧ ∀ m, i < m → m < J → ICond1 P i m) (fun jv _ => P.orders.length - (intOf jv).toNat)
 case atStart => exact ⟨i + 1, by go_num, by omega, by omega, Ext.refl _, fun m h1 h2 => by omega⟩
 case round =>
  obtain ⟨J, rfl, hJ1, hJ2, hg, hc1⟩ := hrel
  have HC1 := Lib.hid hc1; clear hc1
  by_cases hlt : J < P.orders.length
  ·--<P1
   have hpr := hp0.ext hg
   obtain ⟨ao, capo, hco, hoi⟩ := hpr.ordAt
   obtain ⟨bo, oo, rfl, _, _, hcoi⟩ := Ints.at hoi J hlt
   obtain ⟨ap, capp, hcp, hpi⟩ := hpr.powAt
   obtain ⟨bp, op, ap2, capp2, rfl, _, _, hcpi, hpii⟩ := Rows2.at hpi J (by have := HPL.out; omega)
   obtain ⟨ac, capc, hcc, hci⟩ := hpr.conjAt
   obtain ⟨bc, oc, ac2, capc2, rfl, _, _, hcci, hcii⟩ := Rows3.at hci i hic
   obtain ⟨bd, od, ad2, capd2, rfl, _, _, hcd, hid⟩ := Rows2.at hcii (J - i - 1) (by rw [HCV.out.1]; omega)
   have e1 : ∀ w', Ext wr w' → w'.cell? ⟨pb, po, none⟩ = some (.slice (some ⟨bo, oo, none⟩) P.orders.length capo) := fun w' h => h.cell hco (by simp)
   have e2 : ∀ w', Ext wr w' → w'.cell? ⟨pb, po + 1, none⟩ = some (.slice (some ⟨bp, op, none⟩) P.powers.length capp) := fun w' h => h.cell hcp (by simp)
   have e3 : ∀ w', Ext wr w' → w'.cell? ⟨pb, po + 2, none⟩ = some (.slice (some ⟨bc, oc, none⟩) P.conj.length capc) := fun w' h => h.cell hcc (by simp)
   have e4 : ∀ w', Ext wr w' → w'.cell? ⟨bo, oo + J, none⟩ = some (.int .i64 (gt P.orders J)) := fun w' h => h.cell hcoi (by simp)
   have e5 : ∀ w', Ext wr w' → w'.cell? ⟨bp, op + J, none⟩ = some (.slice ap2 (gt P.powers J).length capp2) := fun w' h => h.cell hcpi (by simp)
   have e6 : ∀ w', Ext wr w' → w'.cell? ⟨bc, oc + i, none⟩ = some (.slice (some ⟨bd, od, none⟩) (gt P.conj i).length capc2) := fun w' h => h.cell hcci (by simp)
   have e7 : ∀ w', Ext wr w' → w'.cell? ⟨bd, od + (J - i - 1), none⟩ = some (.slice ad2 (gt (gt P.conj i) (J - i - 1)).length capd2) := fun w' h => h.cell hcd (by simp)
   have b1 : (0 : Int) ≤ (J : Int) - i - 1 := by omega
   have b2 : (J : Int) - i - 1 < (gt P.conj i).length := by rw [HCV.out.1]; omega
   have b3 : (i : Int) < P.conj.length := by omega
   have b4 : (J : Int) < P.powers.length := by have := HPL.out; omega
   have b5 : (J : Int) < P.orders.length := by omega
   have b6 : (0 : Int) ≤ J := by omega
   have b7 : ((J : Int) - i - 1).toNat = J - i - 1 := by omega
   have b8 : (1 : Int) ≤ (J : Int) - i := by omega
   have s1 : IntKind.i64.wrap ((J : Int) - i) = (J : Int) - i := IntWalk.i64_in _ (by omega)
   have s2 : IntKind.i64.wrap ((J : Int) - i - 1) = (J : Int) - i - 1 := IntWalk.i64_in _ (by omega)
   have hcvec := (HCV.out.2 (J - i - 1) (by omega)).1
   have hpvec := (hP.pv J hlt).1
   have hoJ := hP.ord7 J hlt
   have HX := Lib.hid (And.intro hcvec (And.intro hpvec hoJ)); clear hcvec hpvec hoJ
   have hl1 := (iPow_vec hP _ (gt P.orders J) HX.out.1).1
   have hl2 := (iImg_vec hP i hi _ HX.out.2.1).1
   have HL := Lib.hid (And.intro hl1 hl2); clear hl1 hl2
   clear hco hcoi hcp hcpi hcc hcci hcd hoi hpi hci hcii
   have rr0 := hg.cell RR.out.1 (by simp)
   have rr1 := hg.cell RR.out.2.1 (by simp)
   have rr2 := hg.cell RR.out.2.2.1 (by simp)
   have rr3 := hg.cell RR.out.2.2.2.1 (by simp)
   have rrf := fun k => frozen_ext hg (RR.out.2.2.2.2 k) rs
   have rrs : w.heap.size < wr.heap.size := Nat.lt_of_lt_of_le rs hg.size
   have RRr := Lib.hid (And.intro rr0 (And.intro rr1 (And.intro rr2 (And.intro rr3 rrf)))); clear rr0 rr1 rr2 rr3 rrf
   go_wp2
   cases hq : eqB (iPow P (gt (gt P.conj i) (J - i - 1)) (gt P.orders J)) (iImg P i (gt P.powers J)) with
   | true =>
    have HQ := Lib.hid hq
    go_region_held3 (fun w' => Ext wr w') (first | exact grown_drew _ _ | assumption)
     (first
      | (go_at_call 306; refine Calls.mono (Calls.rel (w0 := wr) (by assumption) (power_ok P hP _ _ _ _ _ Any Any (PresP.sub (PresP.ext hpr (by assumption)) (fun _ _ _ => trivial)) (Ints.sub (Ints.ext hid (by assumption)) (fun _ _ _ => trivial)) HX.out.1 (by have := HX.out.2.2; omega))) ?_; rintro eA wA ⟨vA, rfl, hgA, hsA, hOA⟩)
      | (go_at_call 370; refine Calls.mono (Calls.rel2 (w0 := wr) (by assumption) (imageBy_ok P hP _ _ _ i _ Any Any hi (PresP.sub (PresP.ext hpr (by assumption)) (fun _ _ _ => trivial)) (Ints.sub (Ints.ext hpii (by assumption)) (fun _ _ _ => trivial)) HX.out.2.1)) ?_; rintro eF wF ⟨vF, rfl, hgF, hgF2, hsF, hOF⟩; have hOA2 := (hOA.ext0 hgF2).ints (by rw [HL.out.1]; omega); have hOF2 := hOF.ints (by rw [HL.out.2]; omega))
      | (go_at_call 242; refine Calls.mono (Calls.rel (w0 := wr) (by assumption) (sEqual_ok _ _ _ _ _ Any Any hOA2 hOF2)) ?_; rintro eB wB ⟨vB, rfl, hgB, hsB, rfl⟩))
    clear e1 e2 e3 e4 e5 e6 e7 s1 s2 b1 b2 b7 b8
    go_wp2
    go_roundw
    case rel => exact ⟨J + 1, by go_num, by omega, by omega, grown_trans hg hgB, fun m h1 h2 => by
     rcases Nat.lt_or_ge m J with h3 | h3
     ·exact HC1.out m h1 h3
     ·have : m = J := by omega
      rw [this]; exact eqB_true.1 HQ.out⟩
    case measure => simp [intOf]; omega
   | false =>
    have HQ := Lib.hid hq
    go_region_held3 (fun w' => Ext wr w') (first | exact grown_drew _ _ | assumption)
     (first
      | (go_at_call 306; refine Calls.mono (Calls.rel (w0 := wr) (by assumption) (power_ok P hP _ _ _ _ _ Any Any (PresP.sub (PresP.ext hpr (by assumption)) (fun _ _ _ => trivial)) (Ints.sub (Ints.ext hid (by assumption)) (fun _ _ _ => trivial)) HX.out.1 (by have := HX.out.2.2; omega))) ?_; rintro eA wA ⟨vA, rfl, hgA, hsA, hOA⟩)
      | (go_at_call 370; refine Calls.mono (Calls.rel2 (w0 := wr) (by assumption) (imageBy_ok P hP _ _ _ i _ Any Any hi (PresP.sub (PresP.ext hpr (by assumption)) (fun _ _ _ => trivial)) (Ints.sub (Ints.ext hpii (by assumption)) (fun _ _ _ => trivial)) HX.out.2.1)) ?_; rintro eF wF ⟨vF, rfl, hgF, hgF2, hsF, hOF⟩; have hOA2 := (hOA.ext0 hgF2).ints (by rw [HL.out.1]; omega); have hOF2 := hOF.ints (by rw [HL.out.2]; omega))
      | (go_at_call 242; refine Calls.mono (Calls.rel (w0 := wr) (by assumption) (sEqual_ok _ _ _ _ _ Any Any hOA2 hOF2)) ?_; rintro eB wB ⟨vB, rfl, hgB, hsB, rfl⟩))
    clear e1 e2 e3 e4 e5 e6 e7 s1 s2 b1 b2 b7 b8
    have c0 := hgB.cell RRr.out.1 (by simp)
    have c1 := hgB.cell RRr.out.2.1 (by simp)
    have c2 := hgB.cell RRr.out.2.2.1 (by simp)
    have c3 := hgB.cell RRr.out.2.2.2.1 (by simp)
    have cf0 := frozen_ext hgB (RRr.out.2.2.2.2 0) rrs
    have cf1 := frozen_ext hgB (RRr.out.2.2.2.2 1) rrs
    have cf2 := frozen_ext hgB (RRr.out.2.2.2.2 2) rrs
    have cf3 := frozen_ext hgB (RRr.out.2.2.2.2 3) rrs
    go_wp2
    refine bodyPost_ret (v := .agg #[.int .i64 1, .int .i64 i, .int .i64 J, .int .i64 0]) (by simp [results, Tryz.results299, go_sem, c0, c1, c2, c3]) rfl ⟨_, rfl, ext_set4 (grown_trans hg0 (grown_trans hg hgB)) (Nat.le_refl _) _ _ _ _, .inr ⟨fun h => eqB_false.1 HQ.out (h.c1 J (by omega) hlt), _, _, _, _, by decide, rfl⟩⟩
  -->P1
  ·have hall : ∀ m, i < m → m < P.orders.length → ICond1 P i m := fun m h1 h2 => HC1.out m h1 (by omega)
   have HA1 := Lib.hid hall; clear hall HC1
   go_wp2
   clear hlt
   go_loopw [8] (fun jv wr => ∃ J : Nat, jv = .int .i64 J ∧ i + 1 ≤ J ∧ J ≤ P.orders.length ∧ Ext w0 wr ∧ ∀ m n, i < m → m < J → m < n → n < P.orders.length → ICond2 P i m n) (fun jv _ => P.orders.length - (intOf jv).toNat)
   case atStart => exact ⟨i + 1, by go_num, by omega, by omega, hg, fun m n h1 h2 => by omega⟩
   case round =>
    clear hg hJ1 hJ2
    obtain ⟨J, rfl, hJ1, hJ2, hg, hc2⟩ := hrel
    have HC2 := Lib.hid hc2; clear hc2
    by_cases hlt : J < P.orders.length
    ·--<P2
     have hJb : (J : Int) < P.orders.length := by omega
     go_wp2
     go_loopw [9] (fun kv wr => ∃ K : Nat, kv = .int .i64 K ∧ J + 1 ≤ K ∧ K ≤ P.orders.length ∧ Ext w0 wr ∧ ∀ n, J < n → n < K → ICond2 P i J n) (fun kv _ => P.orders.length - (intOf kv).toNat)
     case atStart => exact ⟨J + 1, by go_num, by omega, by omega, hg, fun n h1 h2 => by omega⟩
     case round =>
      clear hg
      obtain ⟨K, rfl, hK1, hK2, hg, hc3⟩ := hrel
      have HC3 := Lib.hid hc3; clear hc3
      by_cases hltK : K < P.orders.length
      ·have hpr := hp0.ext hg
       obtain ⟨ac, capc, hcc, hci⟩ := hpr.conjAt
       obtain ⟨bc, oc, ac2, capc2, rfl, _, _, hcci, hcii⟩ := Rows3.at hci i hic
       obtain ⟨bd, od, ad2, capd2, rfl, _, _, hcd, hid⟩ := Rows2.at hcii (J - i - 1) (by rw [HCV.out.1]; omega)
       obtain ⟨bd2, od2, ad3, capd3, hbd2, _, _, hcdK, hidK⟩ := Rows2.at hcii (K - i - 1) (by rw [HCV.out.1]; omega)
       obtain ⟨rfl, rfl⟩ : bd2 = bd ∧ od2 = od := by cases hbd2; exact ⟨rfl, rfl⟩
       have hcvJ := (hP.cv J hlt)
       obtain ⟨bc5, oc5, ac5, capc5, hbc5, _, _, hccJ, hciJ⟩ := Rows3.at hci J (by have := HCL.out; omega)
       obtain ⟨rfl, rfl⟩ : bc5 = bc ∧ oc5 = oc := by cases hbc5; exact ⟨rfl, rfl⟩
       obtain ⟨bd6, od6, ad6, capd6, rfl, _, _, hcdJ, hidJ⟩ := Rows2.at hciJ (K - J - 1) (by rw [hcvJ.1]; omega)
       clear hbd2 hbc5
       have e3 : ∀ w', Ext wr w' → w'.cell? ⟨pb, po + 2, none⟩ = some (.slice (some ⟨bc5, oc5, none⟩) P.conj.length capc) := fun w' h => h.cell hcc (by simp)
       have e6 : ∀ w', Ext wr w' → w'.cell? ⟨bc5, oc5 + i, none⟩ = some (.slice (some ⟨bd2, od2, none⟩) (gt P.conj i).length capc2) := fun w' h => h.cell hcci (by simp)
       have e7 : ∀ w', Ext wr w' → w'.cell? ⟨bd2, od2 + (J - i - 1), none⟩ = some (.slice ad2 (gt (gt P.conj i) (J - i - 1)).length capd2) := fun w' h => h.cell hcd (by simp)
       have e8 : ∀ w', Ext wr w' → w'.cell? ⟨bd2, od2 + (K - i - 1), none⟩ = some (.slice ad3 (gt (gt P.conj i) (K - i - 1)).length capd3) := fun w' h => h.cell hcdK (by simp)
       have e9 : ∀ w', Ext wr w' → w'.cell? ⟨bc5, oc5 + J, none⟩ = some (.slice (some ⟨bd6, od6, none⟩) (gt P.conj J).length capc5) := fun w' h => h.cell hccJ (by simp)
       have e10 : ∀ w', Ext wr w' → w'.cell? ⟨bd6, od6 + (K - J - 1), none⟩ = some (.slice ad6 (gt (gt P.conj J) (K - J - 1)).length capd6) := fun w' h => h.cell hcdJ (by simp)
       have b1 : (0 : Int) ≤ (J : Int) - i - 1 := by omega
       have b2 : (J : Int) - i - 1 < (gt P.conj i).length := by rw [HCV.out.1]; omega
       have b3 : (i : Int) < P.conj.length := by omega
       have b4 : (J : Int) < P.conj.length := by have := HCL.out; omega
       have b7 : ((J : Int) - i - 1).toNat = J - i - 1 := by omega
       have b8 : (1 : Int) ≤ (J : Int) - i := by omega
       have k1 : (0 : Int) ≤ (K : Int) - i - 1 := by omega
       have k2 : (K : Int) - i - 1 < (gt P.conj i).length := by rw [HCV.out.1]; omega
       have k7 : ((K : Int) - i - 1).toNat = K - i - 1 := by omega
       have k8 : (1 : Int) ≤ (K : Int) - i := by omega
       have m1 : (0 : Int) ≤ (K : Int) - J - 1 := by omega
       have m2 : (K : Int) - J - 1 < (gt P.conj J).length := by rw [hcvJ.1]; omega
       have m7 : ((K : Int) - J - 1).toNat = K - J - 1 := by omega
       have m8 : (1 : Int) ≤ (K : Int) - J := by omega
       have b5 : (K : Int) < P.orders.length := by omega
       have s1 : IntKind.i64.wrap ((J : Int) - i) = (J : Int) - i := IntWalk.i64_in _ (by omega)
       have s2 : IntKind.i64.wrap ((J : Int) - i - 1) = (J : Int) - i - 1 := IntWalk.i64_in _ (by omega)
       have s3 : IntKind.i64.wrap ((K : Int) - i) = (K : Int) - i := IntWalk.i64_in _ (by omega)
       have s4 : IntKind.i64.wrap ((K : Int) - i - 1) = (K : Int) - i - 1 := IntWalk.i64_in _ (by omega)
       have s5 : IntKind.i64.wrap ((K : Int) - J) = (K : Int) - J := IntWalk.i64_in _ (by omega)
       have s6 : IntKind.i64.wrap ((K : Int) - J - 1) = (K : Int) - J - 1 := IntWalk.i64_in _ (by omega)
       have hvJ := (HCV.out.2 (J - i - 1) (by omega)).1
       have hvK := (HCV.out.2 (K - i - 1) (by omega)).1
       have hvJK := (hcvJ.2 (K - J - 1) (by omega)).1
       have HX := Lib.hid (And.intro hvK (And.intro hvJ hvJK)); clear hvJ hvK hvJK hcvJ
       have hl1 := (iConj_vec hP _ _ HX.out.1 HX.out.2.1).1
       have hl2 := (iImg_vec hP i hi _ HX.out.2.2).1
       have HL := Lib.hid (And.intro hl1 hl2); clear hl1 hl2
       clear hcc hcci hcd hcdK hccJ hcdJ hci hcii hciJ
       have rr0 := hg.cell RR.out.1 (by simp)
       have rr1 := hg.cell RR.out.2.1 (by simp)
       have rr2 := hg.cell RR.out.2.2.1 (by simp)
       have rr3 := hg.cell RR.out.2.2.2.1 (by simp)
       have rrf := fun k => frozen_ext hg (RR.out.2.2.2.2 k) rs
       have rrs : w.heap.size < wr.heap.size := Nat.lt_of_lt_of_le rs hg.size
       have RRr := Lib.hid (And.intro rr0 (And.intro rr1 (And.intro rr2 (And.intro rr3 rrf)))); clear rr0 rr1 rr2 rr3 rrf
       go_wp2
       cases hq : eqB (iConj P (gt (gt P.conj i) (K - i - 1)) (gt (gt P.conj i) (J - i - 1))) (iImg P i (gt (gt P.conj J) (K - J - 1))) with
       | true =>
        have HQ := Lib.hid hq
        go_region_held3 (fun w' => Ext wr w') (first | exact grown_drew _ _ | assumption)
         (first
          | (go_at_call 303; refine Calls.mono (Calls.rel (w0 := wr) (by assumption) (conjugate_ok P hP _ _ _ _ _ _ Any Any Any (PresP.sub (PresP.ext hpr (by assumption)) (fun _ _ _ => trivial)) (Ints.sub (Ints.ext hidK (by assumption)) (fun _ _ _ => trivial)) (Ints.sub (Ints.ext hid (by assumption)) (fun _ _ _ => trivial)) HX.out.1 HX.out.2.1)) ?_; rintro eA wA ⟨vA, rfl, hgA, hsA, hOA⟩)
          | (go_at_call 370; refine Calls.mono (Calls.rel2 (w0 := wr) (by assumption) (imageBy_ok P hP _ _ _ i _ Any Any hi (PresP.sub (PresP.ext hpr (by assumption)) (fun _ _ _ => trivial)) (Ints.sub (Ints.ext hidJ (by assumption)) (fun _ _ _ => trivial)) HX.out.2.2)) ?_; rintro eF wF ⟨vF, rfl, hgF, hgF2, hsF, hOF⟩; have hOA2 := (hOA.ext0 hgF2).ints (by rw [HL.out.1]; omega); have hOF2 := hOF.ints (by rw [HL.out.2]; omega))
          | (go_at_call 242; refine Calls.mono (Calls.rel (w0 := wr) (by assumption) (sEqual_ok _ _ _ _ _ Any Any hOA2 hOF2)) ?_; rintro eB wB ⟨vB, rfl, hgB, hsB, rfl⟩))
        clear e3 e6 e7 e8 e9 e10 s1 s2 s3 s4 s5 s6 b1 b2 b7 b8 k1 k2 k7 k8 m1 m2 m7 m8
        go_wp2
        go_roundw
        case rel => exact ⟨K + 1, by go_num, by omega, by omega, grown_trans hg hgB, fun n h1 h2 => by
         rcases Nat.lt_or_ge n K with h3 | h3
         ·exact HC3.out n h1 h3
         ·have : n = K := by omega
          rw [this]; exact eqB_true.1 HQ.out⟩
        case measure => simp [intOf]; omega
       | false =>
        have HQ := Lib.hid hq
        go_region_held3 (fun w' => Ext wr w') (first | exact grown_drew _ _ | assumption)
         (first
          | (go_at_call 303; refine Calls.mono (Calls.rel (w0 := wr) (by assumption) (conjugate_ok P hP _ _ _ _ _ _ Any Any Any (PresP.sub (PresP.ext hpr (by assumption)) (fun _ _ _ => trivial)) (Ints.sub (Ints.ext hidK (by assumption)) (fun _ _ _ => trivial)) (Ints.sub (Ints.ext hid (by assumption)) (fun _ _ _ => trivial)) HX.out.1 HX.out.2.1)) ?_; rintro eA wA ⟨vA, rfl, hgA, hsA, hOA⟩)
          | (go_at_call 370; refine Calls.mono (Calls.rel2 (w0 := wr) (by assumption) (imageBy_ok P hP _ _ _ i _ Any Any hi (PresP.sub (PresP.ext hpr (by assumption)) (fun _ _ _ => trivial)) (Ints.sub (Ints.ext hidJ (by assumption)) (fun _ _ _ => trivial)) HX.out.2.2)) ?_; rintro eF wF ⟨vF, rfl, hgF, hgF2, hsF, hOF⟩; have hOA2 := (hOA.ext0 hgF2).ints (by rw [HL.out.1]; omega); have hOF2 := hOF.ints (by rw [HL.out.2]; omega))
          | (go_at_call 242; refine Calls.mono (Calls.rel (w0 := wr) (by assumption) (sEqual_ok _ _ _ _ _ Any Any hOA2 hOF2)) ?_; rintro eB wB ⟨vB, rfl, hgB, hsB, rfl⟩))
        clear e3 e6 e7 e8 e9 e10 s1 s2 s3 s4 s5 s6 b1 b2 b7 b8 k1 k2 k7 k8 m1 m2 m7 m8
        have c0 := hgB.cell RRr.out.1 (by simp)
        have c1 := hgB.cell RRr.out.2.1 (by simp)
        have c2 := hgB.cell RRr.out.2.2.1 (by simp)
        have c3 := hgB.cell RRr.out.2.2.2.1 (by simp)
        have cf0 := frozen_ext hgB (RRr.out.2.2.2.2 0) rrs
        have cf1 := frozen_ext hgB (RRr.out.2.2.2.2 1) rrs
        have cf2 := frozen_ext hgB (RRr.out.2.2.2.2 2) rrs
        have cf3 := frozen_ext hgB (RRr.out.2.2.2.2 3) rrs
        go_wp2
        refine bodyPost_ret (v := .agg #[.int .i64 2, .int .i64 i, .int .i64 J, .int .i64 K]) (by simp [results, Tryz.results299, go_sem, c0, c1, c2, c3]) rfl ⟨_, rfl, ext_set4 (grown_trans hg0 (grown_trans hg hgB)) (Nat.le_refl _) _ _ _ _, .inr ⟨fun h => eqB_false.1 HQ.out (h.c2 J K (by omega) (by omega) hltK), _, _, _, _, by decide, rfl⟩⟩
      ·have hKe : K = P.orders.length := by omega
       go_wp2
       go_roundw
       case rel => exact ⟨J + 1, by go_num, by omega, by omega, hg, fun m n h1 h2 h3 h4 => by
         rcases Nat.lt_or_ge m J with h5 | h5
         ·exact HC2.out m n h1 h5 h3 h4
         ·have : m = J := by omega
          subst this; exact HC3.out n h3 (by omega)⟩
       case measure => simp [intOf]; omega
    -->P2
    ·have hall2 : ∀ m n, i < m → m < n → n < P.orders.length → ICond2 P i m n := fun m n h1 h2 h3 => HC2.out m n h1 (by omega) h2 h3
     have HA2 := Lib.hid hall2; clear hall2 HC2
     obtain ⟨ap0, capp0, hcp0, hpi0⟩ := hp0.powAt
     obtain ⟨bp, op, ap2, capp2, rfl, _, _, hcpi0, hpii0⟩ := Rows2.at hpi0 i hip
     have hcp := hg.cell hcp0 (by simp)
     have hcpi := hg.cell hcpi0 (by simp)
     have hlw := (iImg_vec hP i hi _ HVW.out).1
     have HLW := Lib.hid hlw; clear hlw hpi0
     have rr0 := hg.cell RR.out.1 (by simp)
     have rr1 := hg.cell RR.out.2.1 (by simp)
     have rr2 := hg.cell RR.out.2.2.1 (by simp)
     have rr3 := hg.cell RR.out.2.2.2.1 (by simp)
     have rrf := fun k => frozen_ext hg (RR.out.2.2.2.2 k) rs
     have rrs : w.heap.size < wr.heap.size := Nat.lt_of_lt_of_le rs hg.size
     have RRr := Lib.hid (And.intro rr0 (And.intro rr1 (And.intro rr2 (And.intro rr3 rrf)))); clear rr0 rr1 rr2 rr3 rrf
     go_wp2_with fail
     refine Calls.mono (imageBy_ok P hP wr _ _ i _ Any Any hi (PresP.sub (hp0.ext hg) (fun _ _ _ => trivial)) (Ints.sub (Ints.ext hpii0 hg) (fun _ _ _ => trivial)) HVW.out) ?_
     rintro eA wA ⟨vA, rfl, hgA, hOA⟩
     go_wp2_with fail
     refine Calls.mono (sEqual_ok _ _ _ _ wA Any Any (hOA.ints (by rw [HLW.out]; omega)) (Ints.sub (Ints.ext hpii0 (grown_trans hg hgA)) (fun _ _ _ => trivial))) ?_
     rintro eB wB ⟨vB, rfl, hgAB, rfl⟩
     have hgB : Ext wr wB := grown_trans hgA hgAB
     cases hq : eqB (iImg P i (gt P.powers i)) (gt P.powers i) with
     | false =>
      have HQ := Lib.hid hq
      have c0 := hgB.cell RRr.out.1 (by simp)
      have c1 := hgB.cell RRr.out.2.1 (by simp)
      have c2 := hgB.cell RRr.out.2.2.1 (by simp)
      have c3 := hgB.cell RRr.out.2.2.2.1 (by simp)
      have cf0 := frozen_ext hgB (RRr.out.2.2.2.2 0) rrs
      have cf1 := frozen_ext hgB (RRr.out.2.2.2.2 1) rrs
      have cf2 := frozen_ext hgB (RRr.out.2.2.2.2 2) rrs
      have cf3 := frozen_ext hgB (RRr.out.2.2.2.2 3) rrs
      go_wp2
      refine bodyPost_ret (v := .agg #[.int .i64 3, .int .i64 i, .int .i64 0, .int .i64 0]) (by simp [results, Tryz.results299, go_sem, c0, c1, c2, c3]) rfl ⟨_, rfl, ext_set4 (grown_trans hg0 (grown_trans hg hgB)) (Nat.le_refl _) _ _ _ _, .inr ⟨fun h => eqB_false.1 HQ.out h.c3, _, _, _, _, by decide, rfl⟩⟩
     | true =>
      have HQ := Lib.hid (eqB_true.1 hq)
      have hgw := grown_trans hg hgB
      clear hcp hcpi
      go_wp2
      clear hq
      have hpii : Ints Sp w0 (.slice ap2 (gt P.powers i).length capp2) (gt P.powers i) := hpii0
      go_loopw [11] (fun jv wr => ∃ J : Nat, jv = .int .i64 J ∧ i + 1 ≤ J ∧ J ≤ P.orders.length ∧ Ext w0 wr ∧ ∀ m, i < m → m < J → ICond4 P i m) (fun jv _ => P.orders.length - (intOf jv).toNat)
      case atStart => exact ⟨i + 1, by go_num, by omega, by omega, hgw, fun m h1 h2 => by omega⟩
      case round =>
       clear hg hgA hgB hgw hOA hJ1 hJ2 RRr rrs hgAB hlt
       obtain ⟨J, rfl, hJ1, hJ2, hg, hc4⟩ := hrel
       have HC4 := Lib.hid hc4; clear hc4
       have rr0 := hg.cell RR.out.1 (by simp)
       have rr1 := hg.cell RR.out.2.1 (by simp)
       have rr2 := hg.cell RR.out.2.2.1 (by simp)
       have rr3 := hg.cell RR.out.2.2.2.1 (by simp)
       have rrf := fun k => frozen_ext hg (RR.out.2.2.2.2 k) rs
       have rrs : w.heap.size < wr.heap.size := Nat.lt_of_lt_of_le rs hg.size
       have RRr := Lib.hid (And.intro rr0 (And.intro rr1 (And.intro rr2 (And.intro rr3 rrf)))); clear rr0 rr1 rr2 rr3 rrf
       by_cases hlt : J < P.orders.length
       ·have hJb : (J : Int) < P.orders.length := by omega
        go_wp2_with fail
        refine Calls.mono (unitVector_ok P.orders.length J wr hlt (by omega)) ?_
        rintro eU wU ⟨vU, rfl, hgU, hOU⟩
        obtain ⟨ao5, capo5, hco, hoi⟩ := (hp0.ext (grown_trans hg hgU)).ordAt
        obtain ⟨bo, oo, rfl, _, _, hcoi⟩ := Ints.at hoi i hi
        have hUi := hOU.ints (by rw [(unitV_vec hP J).1]; omega)
        have hoi7 := hP.ord7 i hi
        have ho0 : 0 ≤ gt P.orders i := by omega
        have ho1 : gt P.orders i ≤ 7 := hoi7.2
        clear hoi7
        go_wp2
        clear hco hcoi hoi
        obtain ⟨wo, rfl⟩ : ∃ wo : World, wo = wr := ⟨_, rfl⟩
        go_loopw [12, 160] (fun xv mv w2 => ∃ m : Nat, mv = .int .i64 m ∧ m ≤ (gt P.orders i).toNat ∧ Ext wo w2 ∧ Ints Any w2 xv (iter m (fun x => iImg P i x) (unitV P.orders.length J))) (fun _ mv _ => (gt P.orders i).toNat - (intOf mv).toNat)
        case atStart => exact ⟨0, rfl, by omega, hgU, hUi⟩
        case round =>
         obtain ⟨m, rfl, hm, hg2, hX⟩ := hrel
         have hvX : Vec P.orders (iter m (fun x => iImg P i x) (unitV P.orders.length J)) := iter_inv (Vec P.orders) _ (fun y hy => iImg_vec hP i hi y hy) _ _ (unitV_vec hP J)
         have HVX := Lib.hid hvX; clear hvX
         by_cases hlt2 : (m : Int) < gt P.orders i
         ·go_wp2_with fail
          refine Calls.mono (imageBy_ok P hP wr _ _ i _ Any Any hi (PresP.sub (hp0.ext (grown_trans hg hg2)) (fun _ _ _ => trivial)) hX HVX.out) ?_
          rintro eA wA ⟨vA, rfl, hgA, hOA⟩
          have hvn := iImg_vec hP i hi _ HVX.out
          have hOAi := hOA.ints (by rw [hvn.1]; omega)
          clear hvn
          go_wp2
          go_roundw
          case rel => exact ⟨m + 1, by go_num, by omega, grown_trans hg2 hgA, hOAi⟩
          case measure => simp [intOf]; omega
         ·have hme : m = (gt P.orders i).toNat := by omega
          have hlU := (unitV_vec hP J).1
          have hlX := HVX.out.1
          have hlC := (iConj_vec hP _ _ (unitV_vec hP J) HVW.out).1
          have HLs := Lib.hid (And.intro hlU (And.intro hlX hlC)); clear hlU hlX hlC
          have hX2 : Ints Any wr u12 (iter (gt P.orders i).toNat (fun x => iImg P i x) (unitV P.orders.length J)) := by rw [← hme]; exact hX
          have hlX2 : (iter (gt P.orders i).toNat (fun x => iImg P i x) (unitV P.orders.length J)).length = P.orders.length := by rw [← hme]; exact HLs.out.2.1
          have HLX2 := Lib.hid hlX2; clear hlX2 hX
          go_wp2_with fail
          refine Calls.mono (unitVector_ok P.orders.length J wr hlt (by omega)) ?_
          rintro eV wV ⟨vV, rfl, hgV, hOV⟩
          go_wp2_with fail
          refine Calls.mono (conjugate_ok P hP wV _ _ _ (unitV P.orders.length J) (gt P.powers i) Any Any Any (PresP.sub (hp0.ext (grown_trans hg (grown_trans hg2 hgV))) (fun _ _ _ => trivial)) (hOV.ints (by rw [HLs.out.1]; omega)) (Ints.sub (Ints.ext hpii (grown_trans hg (grown_trans hg2 hgV))) (fun _ _ _ => trivial)) (unitV_vec hP J) HVW.out) ?_
          rintro eC wC ⟨vC, rfl, hgC, hOC⟩
          go_wp2_with fail
          refine Calls.mono (sEqual_ok _ _ _ _ wC Any Any (hX2.ext (grown_trans hgV hgC)) (hOC.ints (by rw [HLs.out.2.2]; omega))) ?_
          rintro eB wB ⟨vB, rfl, hgCB, rfl⟩
          have hgB : Ext wo wB := grown_trans hg2 (grown_trans hgV (grown_trans hgC hgCB))
          cases hq : eqB (iter (gt P.orders i).toNat (fun x => iImg P i x) (unitV P.orders.length J)) (iConj P (unitV P.orders.length J) (gt P.powers i)) with
          | true =>
           have HQ4 := Lib.hid hq
           go_wp2
           go_roundw
           case rel => exact ⟨J + 1, by go_num, by omega, by omega, grown_trans hg hgB, fun m h1 h2 => by
            rcases Nat.lt_or_ge m J with h3 | h3
            ·exact HC4.out m h1 h3
            ·have : m = J := by omega
             rw [this]; exact eqB_true.1 HQ4.out⟩
           case measure => simp [intOf]; omega
          | false =>
           have HQ4 := Lib.hid hq
           have c0 := hgB.cell RRr.out.1 (by simp)
           have c1 := hgB.cell RRr.out.2.1 (by simp)
           have c2 := hgB.cell RRr.out.2.2.1 (by simp)
           have c3 := hgB.cell RRr.out.2.2.2.1 (by simp)
           have cf0 := frozen_ext hgB (RRr.out.2.2.2.2 0) rrs
           have cf1 := frozen_ext hgB (RRr.out.2.2.2.2 1) rrs
           have cf2 := frozen_ext hgB (RRr.out.2.2.2.2 2) rrs
           have cf3 := frozen_ext hgB (RRr.out.2.2.2.2 3) rrs
           go_wp2
           refine bodyPost_ret (v := .agg #[.int .i64 4, .int .i64 i, .int .i64 J, .int .i64 0]) (by simp [results, Tryz.results299, go_sem, c0, c1, c2, c3]) rfl ⟨_, rfl, ext_set4 (grown_trans hg0 (grown_trans hg hgB)) (Nat.le_refl _) _ _ _ _, .inr ⟨fun h => eqB_false.1 HQ4.out (h.c4 J (by omega) hlt), _, _, _, _, by decide, rfl⟩⟩
       ·have hJe : J = P.orders.length := by omega
        subst hJe
        have c0 := RRr.out.1
        have c1 := RRr.out.2.1
        have c2 := RRr.out.2.2.1
        have c3 := RRr.out.2.2.2.1
        have cf0 := RRr.out.2.2.2.2 0
        have cf1 := RRr.out.2.2.2.2 1
        have cf2 := RRr.out.2.2.2.2 2
        have cf3 := RRr.out.2.2.2.2 3
        go_wp2
        refine bodyPost_ret (v := .agg #[.int .i64 0, .int .i64 0, .int .i64 0, .int .i64 0]) (by simp [results, Tryz.results299, go_sem, c0, c1, c2, c3]) rfl ⟨_, rfl, ext_set4 (grown_trans hg0 hg) (Nat.le_refl _) _ _ _ _, .inl ⟨⟨HA1.out, HA2.out, HQ.out, HC4.out⟩, rfl⟩⟩
end Go.Proofs.YtmjkoejegfjbbaaGreat
