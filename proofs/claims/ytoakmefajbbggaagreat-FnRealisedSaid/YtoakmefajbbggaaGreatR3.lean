/-
  The reference's multiplication: spec.l08At computes rAt.
  spec.IsPresentation decides the same as impl.IsPresentation.
  The reference's inverse, conjugate and power: spec.l10From, l10Inv, l10Conj, l08Repeat.
  impl.timesGenerator and impl.timesVector compute tgen and tvec in place.
  Lists of lists that a call builds by append: each row in blocks of its own.
  The program's operations on elements: impl.multiply, invert, power, conjugate, imageBy.
  impl.invert, impl.conjugate, impl.imageBy.
-/
import Derived.Test.YtoakmefajbbggaaGreatR1
import Derived.Test.YtoakmefajbbggaaGreatR2
import Derived.BigRegion
import Derived.Deep.LoopGhost
namespace Go.Proofs.YtoakmefajbbggaaGreat
open Go.RowKit

set_option maxHeartbeats 2000000 in
theorem l08At_zero (P : Pr) (hP : Valid P) : AtOk P 0 := by
  intro w pv a b i A B Sp Sa Sb hi hp ha hb hA hB
  obtain ⟨vo, vp, vc, rfl, h3⟩ := hp
  have hn6 := hP.n6
  have hBx := PresP.box h3 28
  obtain ⟨ao, capo, hco, hoi⟩ := hBx.ordAt
  have hi2 : (i : Int) = P.orders.length := by omega
  have hi3 : ((P.orders.length : Int) ≤ (i : Int)) := by omega
  have HI := Lib.hid hi2; clear hi2
  go_enter Tryz.func192, Tryz.ntmps192
  go_wp2_with (at_make; refine wp_make_ints rfl _ _ rfl (w.heap.size + 1) P.orders.length (w.heap.size + 1) (by simp) _ rfl rfl rfl (by omega) (by simp) ?_; intro w1 ho1 hg1 _)
  go_ret
  exact ⟨_, rfl, grown_trans (World.grownBy_alloc _ _ _) hg1, ho1.weak (by omega)⟩

set_option maxHeartbeats 4000000 in
theorem l08At_succ (P : Pr) (hP : Valid P) (f : Nat) (ih : AtOk P f) : AtOk P (f + 1) := by
  intro w pv a b i A B Sp Sa Sb hi hp ha hb hA hB
  obtain ⟨vo, vp, vc, rfl, h3⟩ := hp
  have hn6 := hP.n6
  have hBx := PresP.box h3 28
  have ha0 := ha.ext (World.grownBy_alloc w (.cells #[vo, vp, vc] 28) none)
  have hb0 := hb.ext (World.grownBy_alloc w (.cells #[vo, vp, vc] 28) none)
  have hlA : A.length ≤ P.orders.length ∧ P.orders.length ≤ A.length := by rw [hA.1]; omega
  have hlB : B.length ≤ P.orders.length ∧ P.orders.length ≤ B.length := by rw [hB.1]; omega
  have hg0 : Ext w (w.alloc (.cells #[vo, vp, vc] 28)) := World.grownBy_alloc _ _ _
  have hs0 : (w.alloc (.cells #[vo, vp, vc] 28)).heap.size = w.heap.size + 1 := by simp
  have HS := Lib.hid hs0; clear hs0
  clear ha hb
  go_enter Tryz.func192, Tryz.ntmps192
  obtain ⟨ao, capo, hco, hoi⟩ := hBx.ordAt
  go_wp2_with fail
  clear hco hoi
  generalize hw0 : w.alloc (.cells #[vo, vp, vc] 28) = w0 at *
  clear hw0
  refine Calls.mono (l01Own_ok w0 a A Sa ha0 (by omega)) ?_
  rintro e1 w1 ⟨L, rfl, hg1, hL⟩
  go_wp2_with fail
  refine Calls.mono (l01Own_ok w1 b B Sb (hb0.ext hg1) (by omega)) ?_
  rintro e2 w2 ⟨R, rfl, hg2, hR⟩
  have hL2 := hL.ext0 hg2
  obtain ⟨gl, capl, rfl, hbl, hsl⟩ := hL.form (by omega)
  obtain ⟨gr, capr, rfl, hbr, hsr⟩ := hR.form (by omega)
  have hne : gl ≠ gr := by omega
  have c1 := hL2.cell i (by omega)
  have f1 := hL2.frozen i
  obtain ⟨hL3, hg3⟩ := hL2.store i 0
  have hR3 := hR.ext hg3 (.inr (by intro h; cases h; exact hne rfl))
  have c2 := hR3.cell i (by omega)
  have f2 := hR3.frozen i
  obtain ⟨hR4, hg4⟩ := hR3.store i 0
  have hL4 := hL3.ext hg4 (.inr (by intro h; cases h; exact hne rfl))
  have hg4w : Ext w0 ((w2.setCell ⟨gl, i, none⟩ (.int .i64 0)).setCell ⟨gr, i, none⟩ (.int .i64 0)) :=
    grown_own (grown_own (grown_trans hg1 hg2) hg3 (fun j hj hlt => by cases hj; omega)) hg4 (fun j hj hlt => by cases hj; have := hg1.size; omega)
  have hA1 := hA.set i 0 ⟨by omega, fun _ => by have := hP.ord7 i (by omega); omega⟩
  have hB1 := hB.set i 0 ⟨by omega, fun _ => by have := hP.ord7 i (by omega); omega⟩
  have hs1 := hg1.size
  have hs2 := hg2.size
  have hAi := hA.2 i (by omega)
  have hBi := hB.2 i (by omega)
  have hoi := hP.ord7 i (by omega)
  have hAi0 : 0 ≤ gt A i := hAi.1
  have hBi0 : 0 ≤ gt B i := hBi.1
  have hoi0 : 2 ≤ gt P.orders i := hoi.1
  have hAi1 : gt A i < gt P.orders i := hAi.2
  have hBi1 : gt B i < gt P.orders i := hBi.2
  have hoi1 : gt P.orders i ≤ 7 := hoi.2
  clear hAi hBi hoi
  go_wp2
  clear c1 f1 c2 f2 hL2 hL3 hR3 hL hR
  generalize hw4 : (w2.setCell ⟨gl, i, none⟩ (.int .i64 0)).setCell ⟨gr, i, none⟩ (.int .i64 0) = w4 at *
  clear hw4 hg3 hg4
  obtain ⟨ab, capb, rfl, _, _⟩ := hb0.shape
  obtain ⟨aa, capa, rfl, _, _⟩ := ha0.shape
  go_loopw [10, 12] (fun v mm wr => ∃ m : Nat, mm = .int .i64 m ∧ m ≤ (gt B i).toNat ∧ Ext w4 wr ∧
      Own (w.heap.size + 1) wr v (iter m (fun l => rImage P f i l) (A.set i 0))) (fun _ mm _ => (gt B i).toNat - (intOf mm).toNat)
  case atStart => exact ⟨0, rfl, by omega, Ext.refl _, hL4.weak (by have := HS.out; omega)⟩
  case round =>
    obtain ⟨m, rfl, hm, hg, hO⟩ := hrel
    have hgr : Ext w0 wr := grown_trans hg4w hg
    obtain ⟨bb, ob, rfl, _, _, hcb⟩ := Ints.at (hb0.ext hgr) i (by omega)
    have hvm : Vec P.orders (iter m (fun l => rImage P f i l) (A.set i 0)) := iter_inv (Vec P.orders) _ (fun y hy => rImgTo_vec hP f i hi (rAt_vec hP f) _ _ (zeros_vec hP) f (Nat.le_refl _)) _ _ hA1
    have HV := Lib.hid hvm
    have hOi := hO.ints (by rw [hvm.1]; omega)
    clear hvm
    obtain ⟨vo9, vp9, vc9, _, _, hc0, hc1, hc2, h39⟩ := (hBx.ext hgr).at
    by_cases hlt2 : (m : Int) < gt B i
    · go_wp2_with fail
      refine Calls.mono (l08Image_of P hP f ih wr _ _ i _ Any Any hi ⟨_, _, _, rfl, h39⟩ hOi HV.out) ?_
      rintro e5 w5 ⟨v5, rfl, hg5, hO5⟩
      go_wp2
      go_roundw
      case rel => exact ⟨m + 1, by go_num, by omega, grown_trans hg hg5, hO5.weak (by have := hgr.size; have := HS.out; omega)⟩
      case measure => simp [intOf]; omega
    · have hme : m = (gt B i).toNat := by omega
      subst hme
      have hR5 := hR4.ext0 hg
      generalize hleft : iter (gt B i).toNat (fun l => rImage P f i l) (A.set i 0) = left at *
      have HL := Lib.hid hleft; clear hleft
      go_wp2_with fail
      refine Calls.mono (ih wr _ _ _ (i + 1) left (B.set i 0) Any Any Any (by omega) ⟨_, _, _, rfl, h39⟩ hOi (hR5.ints (by simp; omega)) HV.out hB1) ?_
      rintro e6 w6 ⟨rest, rfl, hg6, hr6⟩
      have hgr6 : Ext w0 w6 := grown_trans hgr hg6
      obtain ⟨ba, oa, rfl, _, _, hca⟩ := Ints.at (ha0.ext hgr6) i (by omega)
      have hcb6 : w6.cell? ⟨bb, ob + i, none⟩ = some (.int .i64 (gt B i)) := hg6.cell hcb (by simp)
      have hvr := rAt_vec hP f (i + 1) _ _ (by omega) HV.out hB1
      have HVr := Lib.hid hvr; clear hvr
      clear hc0 hc1 hc2 hcb hOi hO h39 hR5 hR4 hL4 hlt2 hm
      generalize hrest : rAt P f (i + 1) left (B.set i 0) = rst at *
      have HRst := Lib.hid hrest; clear hrest
      have hil : i < A.length := by omega
      have hil2 : i < B.length := by omega
      have s1 : IntKind.i64.wrap (gt A i + gt B i) = gt A i + gt B i := IntWalk.i64_in _ (by omega)
      go_wp2
      go_quiet (fail)
      clear s1 hca hcb6
      have hfin : rAt P (f + 1) i A B = if gt P.orders i ≤ gt A i + gt B i then (rAt P f (i + 1) (gt P.powers i) rst).set i (gt A i + gt B i - gt P.orders i) else rst.set i (gt A i + gt B i) := by
        rw [← HRst.out, ← HL.out]; rfl
      have HF := Lib.hid hfin; clear hfin
      rename_i nq _
      have hgr7 : Ext w0 (w6.drewN nq) := grown_trans hgr6 (grown_drewN _ _ _)
      have hr7 : Own wr.heap.size (w6.drewN nq) rest rst := hr6
      have hri := hr7.ints (by rw [HVr.out.1]; omega)
      have hbp := hBx.ext hgr7
      obtain ⟨ao7, capo7, hco, hoi⟩ := hbp.ordAt
      obtain ⟨bo, oo, rfl, _, _, hcoi⟩ := Ints.at hoi i (by omega)
      obtain ⟨ap, capp, hcp, hpr⟩ := hbp.powAt
      obtain ⟨bp, op, ap2, capp2, rfl, _, _, hcpi, hpi⟩ := Rows2.at hpr i (by rw [hP.pl]; omega)
      have hjp : i < P.powers.length := by rw [hP.pl]; omega
      have hwsz : wr.heap.size ≤ (w6.drewN nq).heap.size := hg6.size
      clear hr6 hgr6 hbp hoi hpr
      generalize w6.drewN nq = w7 at *
      by_cases hc : gt P.orders i ≤ gt A i + gt B i
      case' pos =>
        have HF2 := Lib.hid (HF.out.trans (if_pos hc)); clear HF
        obtain ⟨vo9, vp9, vc9, _, _, hc0, hc1, hc2, h39⟩ := (hBx.ext hgr7).at
        have s3 : IntKind.i64.wrap ((i : Int) + 1) = (i : Int) + 1 := IntWalk.i64_in _ (by omega)
        have s4 : IntKind.i64.wrap (gt A i + gt B i - gt P.orders i) = gt A i + gt B i - gt P.orders i := IntWalk.i64_in _ (by omega)
        have e1 : ∀ w', Ext w7 w' → w'.cell? ⟨w.heap.size, 0, none⟩ = some vo9 := fun w' h => h.cell hc0 (by simp)
        have e2 : ∀ w', Ext w7 w' → w'.cell? ⟨w.heap.size, 1, none⟩ = some (.slice (some ⟨bp, op, none⟩) P.powers.length capp) := fun w' h => h.cell (by simpa using hcp) (by simp)
        have e3 : ∀ w', Ext w7 w' → w'.cell? ⟨w.heap.size, 2, none⟩ = some vc9 := fun w' h => h.cell (by simpa using hc2) (by simp)
        have e4 : ∀ w', Ext w7 w' → w'.cell? ⟨bp, op + i, none⟩ = some (.slice ap2 (gt P.powers i).length capp2) := fun w' h => h.cell hcpi (by simp)
        have evp : vp9 = .slice (some ⟨bp, op, none⟩) P.powers.length capp := by
          have := hc1.symm.trans hcp; simpa using this
        subst evp
        have b3 : (i : Int) < P.powers.length := by omega
        have hpv := (hP.pv i (by omega)).1
        have HPV := Lib.hid hpv; clear hpv
        clear hc2 hc1 hcp
        go_wp2
        clear hco hcoi hcpi
        go_region_held3 (fun w' => Ext w7 w') (first | exact grown_drew _ _ | exact hg8)
            (first | (go_at_call 192; refine Calls.mono (Calls.rel (w0 := w7) (by assumption) (ih _ _ _ _ (i + 1) (gt P.powers i) rst Any Any Any (by omega) ⟨_, _, _, rfl, Pres3.ext h39 (by assumption)⟩ (Ints.ext hpi (by assumption)) (Ints.ext hri (by assumption)) HPV.out HVr.out)) ?_; rintro e8 w8 ⟨v8, rfl, hg8, hsz8, hO8⟩))
        have hvp := rAt_vec hP f (i + 1) _ _ (by omega) HPV.out HVr.out
        have hlp : (rAt P f (i + 1) (gt P.powers i) rst).length = P.orders.length := hvp.1
        clear e1 e2 e3 e4 s3 s4 hvp
        go_wp2_with fail
        refine Calls.mono (l01Own_ok w8 v8 (rAt P f (i + 1) (gt P.powers i) rst) Any (hO8.ints (by omega)) (by omega)) ?_
        have hw8 : w0.heap.size ≤ w8.heap.size := by have := hgr7.size; have := hg8.size; omega
        have hgr8 : Ext w0 w8 := grown_trans hgr7 hg8
        generalize rAt P f (i + 1) (gt P.powers i) rst = fin at *
        generalize hcc : gt A i + gt B i - gt P.orders i = cc at *
      case' neg =>
        have HF2 := Lib.hid (HF.out.trans (if_neg hc)); clear HF
        have hlp : rst.length = P.orders.length := HVr.out.1
        go_wp2_with fail
        refine Calls.mono (l01Own_ok w7 rest rst Any hri (by omega)) ?_
        have hgr8 : Ext w0 w7 := hgr7
        generalize hcc : gt A i + gt B i = cc at *
        clear hri hr7 HVr HRst
        generalize rst = fin at *
      all_goals
        have HCC := Lib.hid hcc; clear hcc
        have hlp2 : fin.length ≤ P.orders.length ∧ P.orders.length ≤ fin.length := by omega
        clear hlp
        rintro e9 w9 ⟨v9, rfl, hg9, hO9⟩
        obtain ⟨g9, cap9, rfl, hb9, hs9⟩ := hO9.form (by omega)
        have c9 := hO9.cell i (by omega)
        have f9 := hO9.frozen i
        obtain ⟨hO10, hg10⟩ := hO9.store i cc
        have hfl : i < fin.length := by omega
        go_wp2
        go_ret
        refine ⟨_, rfl, ?_, ?_⟩
        · exact grown_trans hg0 (grown_own (grown_trans hgr8 hg9) hg10 (fun j hj hlt => by cases hj; have := hgr8.size; omega))
        · rw [HF2.out]; exact hO10.weak (by have := hgr8.size; have := HS.out; omega)

theorem l08At_ok (P : Pr) (hP : Valid P) (f : Nat) : AtOk P f := by
  induction f with
  | zero => exact l08At_zero P hP
  | succ f ih => exact l08At_succ P hP f ih

/-- the reference's product -/
def rMul (P : Pr) (A B : List Int) : List Int := rAt P P.orders.length 0 A B

set_option maxHeartbeats 1000000 in
theorem l08Mul_ok (P : Pr) (hP : Valid P) (w : World) (pv a b : Value) (A B : List Int) (Sp Sa Sb : Nat → Prop) (hp : PresV Sp w pv P) (ha : Ints Sa w a A) (hb : Ints Sb w b B) (hA : Vec P.orders A) (hB : Vec P.orders B) :
    Calls Tryz.prog 169 #[pv, a, b] w (Ret w fun w' v => Own w.heap.size w' v (rMul P A B)) := by
  obtain ⟨vo, vp, vc, rfl, h3⟩ := hp
  go_enter Tryz.func169, Tryz.ntmps169
  obtain ⟨vo9, vp9, vc9, _, _, hc0, hc1, hc2, h39⟩ := (PresP.box h3 28).at
  go_wp2_with fail
  refine Calls.mono (l08At_ok P hP P.orders.length _ _ _ _ 0 A B Any Sa Sb (by omega) ⟨_, _, _, rfl, h39⟩ (ha.ext (World.grownBy_alloc _ _ _)) (hb.ext (World.grownBy_alloc _ _ _)) hA hB) ?_
  rintro e1 w1 ⟨v1, rfl, hg1, hO1⟩
  go_wp2
  go_ret
  exact ⟨_, rfl, grown_trans (World.grownBy_alloc _ _ _) hg1, hO1.weak (by simp)⟩

end Go.Proofs.YtoakmefajbbggaaGreat
namespace Go.Proofs.YtoakmefajbbggaaGreat
open Go.RowKit

set_option maxHeartbeats 4000000 in
theorem sIsPresentation_ok (w : World) (pv : Value) (P : Pr) (S : Nat → Prop) (hp : PresV S w pv P) :
    Calls Tryz.prog 57 #[pv] w (Ret w fun _ v => v = .bool (validB P)) := by
  obtain ⟨vo, vp, vc, rfl, h3⟩ := hp
  have hBx := PresP.box h3 28
  have hg0 : Ext w (w.alloc (.cells #[vo, vp, vc] 28)) := World.grownBy_alloc _ _ _
  go_enter Tryz.func57, Tryz.ntmps57
  obtain ⟨ao, capo, hco, hoi⟩ := hBx.ordAt
  obtain ⟨ap, capp, hcp, hpi⟩ := hBx.powAt
  obtain ⟨ac, capc, hcc, hci⟩ := hBx.conjAt
  by_cases h6 : P.orders.length ≤ 6
  rotate_left
  · have hd : decide ((6 : Int) < (P.orders.length : Int)) = true := by simp; omega
    go_wp2
    go_ret
    exact ret_bool hg0 (validB_false (fun h => h6 h.n6)).symm
  have hd6 : decide ((6 : Int) < (P.orders.length : Int)) = false := by simp; omega
  by_cases hpl : P.powers.length = P.orders.length
  rotate_left
  · have hd : ((P.powers.length : Int) != (P.orders.length : Int)) = true := by simp; omega
    have HP := Lib.hid hpl; clear hpl
    go_wp2
    go_ret
    exact ret_bool hg0 (validB_false (fun h => HP.out h.pl)).symm
  have hdp : ((P.powers.length : Int) != (P.orders.length : Int)) = false := by simp [hpl]
  by_cases hcl : P.conj.length = P.orders.length
  rotate_left
  · have hd : ((P.conj.length : Int) != (P.orders.length : Int)) = true := by simp; omega
    have HP := Lib.hid hpl; clear hpl
    have HC := Lib.hid hcl; clear hcl
    go_wp2
    go_ret
    exact ret_bool hg0 (validB_false (fun h => HC.out h.cl)).symm
  have hdc : ((P.conj.length : Int) != (P.orders.length : Int)) = false := by simp [hcl]
  have hpl2 : P.powers.length ≤ P.orders.length ∧ P.orders.length ≤ P.powers.length := by omega
  have hcl2 : P.conj.length ≤ P.orders.length ∧ P.orders.length ≤ P.conj.length := by omega
  have HP := Lib.hid hpl; clear hpl
  have HC := Lib.hid hcl; clear hcl
  go_wp2
  clear hd6 hdp hdc
  generalize hw0 : w.alloc (.cells #[vo, vp, vc] 28) = w0 at *
  clear hw0
  go_loop [4] (fun i => ∃ k : Nat, i = .int .i64 k ∧ k ≤ P.orders.length ∧ ∀ i, i < k → primeB (gt P.orders i) = true) (fun i => P.orders.length - (intOf i).toNat)
  case atStart => exact ⟨0, rfl, by omega, fun i hi => by omega⟩
  case round =>
    obtain ⟨k, rfl, hk, hz⟩ := hrel
    have HZ := Lib.hid hz; clear hz
    by_cases hlt : k < P.orders.length
    · obtain ⟨b, off, rfl, _, _, hc⟩ := Ints.at hoi k hlt
      cases hx : primeB (gt P.orders k) with
      | false =>
        have HX := Lib.hid hx
        go_wp2_with (go_at_call 117; refine (l01Prime_ok _ _).mono ?_; rintro e1 w1 ⟨rfl, rfl⟩)
        go_ret
        exact ret_bool hg0 (validB_false (fun h => by have := primeB_true.2 (h.ord k hlt); rw [HX.out] at this; cases this)).symm
      | true =>
        have HX := Lib.hid hx
        go_wp2_with (go_at_call 117; refine (l01Prime_ok _ _).mono ?_; rintro e1 w1 ⟨rfl, rfl⟩)
        go_round
        case rel => exact ⟨k + 1, by go_num, by omega, fun i hi => by
            rcases Nat.lt_or_ge i k with h1 | h1
            · exact HZ.out i h1
            · have : i = k := by omega
              rw [this]; exact HX.out⟩
        case measure => simp [intOf]; omega
    · have hke : k = P.orders.length := by omega
      subst hke
      have hord : ∀ i, i < P.orders.length → 1 ≤ gt P.orders i ∧ gt P.orders i ≤ 7 := fun i hi => by have := primeB_true.1 (HZ.out i hi); omega
      have HO := Lib.hid hord; clear hord
      have hcap := capTo_le (l := P.orders) P.orders.length (fun i hi => (HO.out i hi).1)
      have HCP := Lib.hid hcap; clear hcap
      by_cases h729 : capTo P.orders P.orders.length ≤ 729
      rotate_left
      · have hd : decide ((729 : Int) < capTo P.orders P.orders.length) = true := by simp; omega
        go_wp2_with (go_at_call 118; refine (l07Product_ok _ _ P.orders Any hoi HO.out).mono ?_; rintro e1 w1 ⟨rfl, rfl⟩)
        go_ret
        exact ret_bool hg0 (validB_false (fun h => by have := HCP.out.1.2 h.le729; omega)).symm
      have hd : decide ((729 : Int) < capTo P.orders P.orders.length) = false := by simp; omega
      go_wp2_with (go_at_call 118; refine (l07Product_ok _ _ P.orders Any hoi HO.out).mono ?_; rintro e1 w1 ⟨rfl, rfl⟩)
      have HLE := Lib.hid (HCP.out.1.1 h729)
      have hord0 : ∀ i, i < P.orders.length → 0 ≤ gt P.orders i ∧ gt P.orders i ≤ 7 := fun i hi => by have := HO.out i hi; omega
      have HO0 := Lib.hid hord0; clear hord0
      clear hcc hcp hco hd h729 HO HCP
      go_loopw [5] (fun i wr => ∃ k : Nat, i = .int .i64 k ∧ k ≤ P.orders.length ∧ Dr w0 wr ∧ ∀ i, i < k → tailB P.orders i (gt P.powers i) = true ∧ (gt P.conj i).length = P.orders.length - 1 - i ∧ ∀ j, j < P.orders.length - 1 - i → tailB P.orders i (gt (gt P.conj i) j) = true) (fun i _ => P.orders.length - (intOf i).toNat)
      case atStart => exact ⟨0, rfl, by omega, Dr.refl _, fun i hi => by omega⟩
      case round =>
        obtain ⟨k, rfl, hk, hdr, hz⟩ := hrel
        have HZ2 := Lib.hid hz; clear hz
        have hgr : Ext w wr := grown_trans hg0 hdr.ext
        by_cases hlt : k < P.orders.length
        · obtain ⟨ao5, capo5, hco, hoi5⟩ := (hBx.ext hdr.ext).ordAt
          obtain ⟨ap, capp, hcp, hpi⟩ := (hBx.ext hdr.ext).powAt
          obtain ⟨ac, capc, hcc, hci⟩ := (hBx.ext hdr.ext).conjAt
          obtain ⟨b1, o1, a2, cap2, rfl, _, _, hc2, hi2⟩ := Rows2.at hpi k (by omega)
          obtain ⟨b3, o3, a4, cap4, rfl, _, _, hc4, hi4⟩ := Rows3.at hci k (by omega)
          have hbad1 : expZB P.orders (gt P.powers k) k = false → validB P = false := fun hx => validB_false (fun h => by have := expZB_vec.2 (h.pv k hlt); rw [hx] at this; cases this)
          have hbad2 : ¬ (gt P.conj k).length = P.orders.length - 1 - k → validB P = false := fun hx => validB_false (fun h => hx (h.cv k hlt).1)
          have hbad3 : ∀ j, j < P.orders.length - 1 - k → expZB P.orders (gt (gt P.conj k) j) k = false → validB P = false := fun j hj hx => validB_false (fun h => by have := expZB_vec.2 ((h.cv k hlt).2 j hj); rw [hx] at this; cases this)
          have HB1 := Lib.hid hbad1; have HB2 := Lib.hid hbad2; have HB3 := Lib.hid hbad3; clear hbad1 hbad2 hbad3
          have b5 : (0 : Int) ≤ k := by omega
          have b6 : (k : Int) < P.powers.length := by omega
          have b7 : (k : Int) < P.conj.length := by omega
          have s1 : IntKind.i64.wrap ((P.orders.length : Int) - 1) = (P.orders.length : Int) - 1 := IntWalk.i64_in _ (by omega)
          have s2 : IntKind.i64.wrap ((P.orders.length : Int) - 1 - k) = (P.orders.length : Int) - 1 - k := IntWalk.i64_in _ (by omega)
          cases hx : expZB P.orders (gt P.powers k) k with
          | false =>
            have HX := Lib.hid hx
            go_wp2
            go_quiet ((go_at_call 119; exact quiet_rd (l07Exponents_ok _ _ _ P.orders (gt P.powers k) k Any Any (hoi5.ext (grown_drewN _ _ _)) (hi2.ext (grown_drewN _ _ _)) HO0.out)))
            go_wp2
            go_ret
            exact ret_bool (grown_trans hgr (grown_drewN _ _ _)) (HB1.out HX.out).symm
          | true =>
            have HX := Lib.hid hx
            by_cases hlen : (gt P.conj k).length = P.orders.length - 1 - k
            · have hd : (((gt P.conj k).length : Int) != (P.orders.length : Int) - 1 - k) = false := by simp; omega
              have hl2 : (gt P.conj k).length ≤ P.orders.length - 1 - k ∧ P.orders.length - 1 - k ≤ (gt P.conj k).length := by omega
              have HLN := Lib.hid hlen; clear hlen
              go_wp2
              go_quiet ((go_at_call 119; exact quiet_rd (l07Exponents_ok _ _ _ P.orders (gt P.powers k) k Any Any (hoi5.ext (grown_drewN _ _ _)) (hi2.ext (grown_drewN _ _ _)) HO0.out)))
              rename_i nq _
              have hdr2 := hdr.step nq
              clear hd hx hcp hc2 s1 s2 b6
              have hci9 : Rows3 Any (wr.drewN nq) (.slice (some ⟨b3, o3, none⟩) P.conj.length capc) P.conj := hci
              go_wp2
              go_loopw [6] (fun i wr => ∃ j : Nat, i = .int .i64 j ∧ j ≤ (gt P.conj k).length ∧ Dr w0 wr ∧ ∀ i, i < j → expZB P.orders (gt (gt P.conj k) i) k = true) (fun i _ => (gt P.conj k).length - (intOf i).toNat)
              case atStart => exact ⟨0, rfl, by omega, hdr2, fun i hi => by omega⟩
              case round =>
                clear hcc hc4 hi4 hi2 hci hpi hci9 hoi5
                obtain ⟨j, rfl, hj, hdr3, hz⟩ := hrel
                have HZ3 := Lib.hid hz; clear hz
                have hgr3 : Ext w wr := grown_trans hg0 hdr3.ext
                obtain ⟨ao7, capo7, hco, hoi7⟩ := (hBx.ext hdr3.ext).ordAt
                obtain ⟨ac7, capc7, hcc, hci⟩ := (hBx.ext hdr3.ext).conjAt
                obtain ⟨b8, o8, a8, cap8, rfl, _, _, hc8, hi8⟩ := Rows3.at hci k (by omega)
                by_cases hlt2 : j < (gt P.conj k).length
                · obtain ⟨b9, o9, a9, cap9, rfl, _, _, hc9, hi9⟩ := Rows2.at hi8 j hlt2
                  have b10 : (j : Int) < (gt P.conj k).length := by omega
                  have b11 : (0 : Int) ≤ j := by omega
                  cases hy : expZB P.orders (gt (gt P.conj k) j) k with
                  | false =>
                    have HY := Lib.hid hy
                    go_wp2
                    go_quiet ((go_at_call 119; exact quiet_rd (l07Exponents_ok _ _ _ P.orders (gt (gt P.conj k) j) k Any Any (hoi7.ext (grown_drewN _ _ _)) (hi9.ext (grown_drewN _ _ _)) HO0.out)))
                    go_wp2
                    go_ret
                    exact ret_bool (grown_trans hgr3 (grown_drewN _ _ _)) (HB3.out j (by omega) HY.out).symm
                  | true =>
                    have HY := Lib.hid hy
                    go_wp2
                    go_quiet ((go_at_call 119; exact quiet_rd (l07Exponents_ok _ _ _ P.orders (gt (gt P.conj k) j) k Any Any (hoi7.ext (grown_drewN _ _ _)) (hi9.ext (grown_drewN _ _ _)) HO0.out)))
                    go_wp2
                    go_roundw
                    case rel => exact ⟨j + 1, by go_num, by omega, hdr3.step _, fun i hi => by
                      rcases Nat.lt_or_ge i j with h1 | h1
                      · exact HZ3.out i h1
                      · have : i = j := by omega
                        rw [this]; exact HY.out⟩
                    case measure => simp [intOf]; omega
                · have hje : j = (gt P.conj k).length := by omega
                  go_wp2
                  go_roundw
                  case rel => exact ⟨k + 1, by go_num, by omega, hdr3, fun i hi => by
                    rcases Nat.lt_or_ge i k with h1 | h1
                    · exact HZ2.out i h1
                    · have : i = k := by omega
                      rw [this]; exact ⟨tailB_vec.2 (expZB_vec.1 HX.out), HLN.out, fun i hi => tailB_vec.2 (expZB_vec.1 (HZ3.out i (by omega)))⟩⟩
                  case measure => simp [intOf]; omega
            · have hd : (((gt P.conj k).length : Int) != (P.orders.length : Int) - 1 - k) = true := by simp; omega
              have HLN := Lib.hid hlen; clear hlen
              go_wp2
              go_quiet ((go_at_call 119; exact quiet_rd (l07Exponents_ok _ _ _ P.orders (gt P.powers k) k Any Any (hoi5.ext (grown_drewN _ _ _)) (hi2.ext (grown_drewN _ _ _)) HO0.out)))
              go_wp2
              go_ret
              exact ret_bool (grown_trans hgr (grown_drewN _ _ _)) (HB2.out HLN.out).symm
        · have hke : k = P.orders.length := by omega
          subst hke
          go_wp2
          go_ret
          refine ret_bool hgr (validB_true ?_).symm
          exact ⟨HLE.out, h6, HP.out, HC.out, fun i hi => primeB_true.1 (HZ.out i hi), fun i hi => tailB_vec.1 (HZ2.out i hi).1,
            fun i hi => ⟨(HZ2.out i hi).2.1, fun j hj => tailB_vec.1 ((HZ2.out i hi).2.2 j hj)⟩⟩

end Go.Proofs.YtoakmefajbbggaaGreat
namespace Go.Proofs.YtoakmefajbbggaaGreat
open Go.RowKit

def rFrom (P : Pr) : Nat → Nat → List Int → List Int
  | 0, _, _ => zeros P.orders.length
  | f + 1, i, X =>
    let out := rFrom P f (i + 1) (X.set i 0)
    if gt X i = 0 then out else
      rAt P (f + 1) i (rAt P (f + 1) i out ((zeros P.orders.length).set i (gt P.orders i - gt X i))) (rFrom P f (i + 1) (gt P.powers i))

theorem rFrom_vec {P : Pr} (hP : Valid P) (f : Nat) : ∀ i X, i + f = P.orders.length → Vec P.orders X → Vec P.orders (rFrom P f i X) := by
  induction f with
  | zero => intro i X _ _; exact zeros_vec hP
  | succ f ih =>
    intro i X hi hX
    have ho := hP.ord7 i (by omega)
    have hx := hX.2 i (by omega)
    have h1 := ih (i + 1) (X.set i 0) (by omega) (hX.set i 0 ⟨by omega, fun _ => by omega⟩)
    simp only [rFrom]
    split
    · exact h1
    · exact rAt_vec hP _ _ _ _ hi (rAt_vec hP _ _ _ _ hi h1 ((zeros_vec hP).set i _ ⟨by omega, fun _ => by omega⟩)) (ih (i + 1) _ (by omega) (hP.pv i (by omega)).1)

/-- the reference's inverse -/
def rInv (P : Pr) (X : List Int) : List Int := rFrom P P.orders.length 0 X

theorem rInv_vec {P : Pr} (hP : Valid P) (X : List Int) (hX : Vec P.orders X) : Vec P.orders (rInv P X) := rFrom_vec hP _ 0 X (by omega) hX
end Go.Proofs.YtoakmefajbbggaaGreat
namespace Go.Proofs.YtoakmefajbbggaaGreat
open Go.RowKit

def TgenOk (P : Pr) (fuel : Nat) : Prop :=
  ∀ (base : Nat) (w : World) (p e : Value) (E : List Int) (j : Nat), PresP (Off e.ownBlock) w p P → Own base w e E → Vec P.orders E → j < P.orders.length → P.orders.length ≤ fuel + j →
    Calls Tryz.prog 89 #[p, e, .int .i64 j] w (Mut w e.ownBlock fun w' v => v = .tuple #[] ∧ Own base w' e (tgen P fuel E j))

set_option maxHeartbeats 1000000 in
theorem timesVector_of (P : Pr) (hP : Valid P) (fuel : Nat) (ih : TgenOk P fuel) (base : Nat) (w : World) (p e f : Value) (E F : List Int) (hp : PresP (Off e.ownBlock) w p P) (hE : Own base w e E)
    (hv : Vec P.orders E) (hf : Ints (Off e.ownBlock) w f F) (hF : Vec P.orders F) (hz : ∀ j, j < P.orders.length → gt F j ≠ 0 → P.orders.length ≤ fuel + j) :
    Calls Tryz.prog 128 #[p, e, f] w (Mut w e.ownBlock fun w' v => v = .tuple #[] ∧ Own base w' e (tvec (tgen P fuel) E F)) := by
  have hlF : F.length ≤ P.orders.length := by rw [hF.1]; omega
  obtain ⟨a, cap, rfl, hl, hcf⟩ := hf
  go_enter Tryz.func128, Tryz.ntmps128
  go_wp2
  go_loopw [10] (fun i wr => ∃ k : Nat, i = .int .i64 k ∧ k ≤ F.length ∧ w.grownBy wr e.ownBlock ∧ Own base wr e (tvecTo (tgen P fuel) F E k)) (fun i _ => F.length - (intOf i).toNat)
  case atStart => exact ⟨0, rfl, by omega, grown_refl _ _, hE⟩
  case round =>
    obtain ⟨k, rfl, hk, hg, hO⟩ := hrel
    by_cases hlt : k < F.length
    · obtain ⟨b, off, u, rfl, hS, hb, hc, hu⟩ := hcf k hlt
      have hc' : wr.cell? ⟨b, off + k, none⟩ = some u := hg.cell hc (fun h => hS h.symm)
      have hu : u = .int .i64 (gt F k) := hu
      subst hu
      have hx := hF.2 k (by omega)
      have hx0 : 0 ≤ gt F k := hx.1
      have hx7 := hP.ord7 k (by omega)
      have hx1 : gt F k ≤ 7 := by omega
      have hvk : Vec P.orders (tvecTo (tgen P fuel) F E k) := tvecTo_vec (fun e j he hj h0 => tgen_vec hP fuel e j he hj (hz j hj h0)) hv k (by omega)
      clear hx hx7 hcf hc
      go_wp2
      go_loopw [16] (fun i wr => ∃ m : Nat, i = .int .i64 m ∧ m ≤ (gt F k).toNat ∧ w.grownBy wr e.ownBlock ∧ Own base wr e (iter m (fun e => tgen P fuel e k) (tvecTo (tgen P fuel) F E k))) (fun i _ => (gt F k).toNat - (intOf i).toNat)
      case atStart => exact ⟨0, rfl, by omega, hg, hO⟩
      case round =>
        clear hg hO hc'
        obtain ⟨m, rfl, hm, hg, hO⟩ := hrel
        by_cases hlt2 : (m : Int) < gt F k
        · have hkf : P.orders.length ≤ fuel + k := hz k (by omega) (by omega)
          have hvm : Vec P.orders (iter m (fun e => tgen P fuel e k) (tvecTo (tgen P fuel) F E k)) := iter_inv (Vec P.orders) _ (fun x hx => tgen_vec hP fuel x k hx (by omega) hkf) _ _ hvk
          go_wp2_with (go_at_call 89; go_must (refine (ih base _ p e _ k (hp.mono (frame_of hg fun k h _ => ⟨h, h⟩)) hO hvm (by omega) hkf).mono ?_); rintro e1 w1 ⟨v1, rfl, hg1, rfl, hO1⟩)
          go_roundw
          case rel => exact ⟨m + 1, by go_num, by omega, grown_trans hg hg1, hO1⟩
          case measure => simp [intOf]; omega
        · have hme : m = (gt F k).toNat := by omega
          have HO : Hid (Own base wr e (tvecTo (tgen P fuel) F E (k + 1))) := by rw [hme] at hO; exact hO
          clear hO hme
          go_wp2
          go_roundw
          case rel => exact ⟨k + 1, by go_num, by omega, hg, HO.out⟩
          case measure => simp [intOf]; omega
    · have hke : k = F.length := by omega
      have HO : Hid (Own base wr e (tvec (tgen P fuel) E F)) := by rw [hke] at hO; exact hO
      clear hO hke
      go_wp2
      go_end0
      exact ⟨_, rfl, hg, rfl, HO.out⟩

set_option maxHeartbeats 1000000 in
theorem timesGenerator_of (P : Pr) (hP : Valid P) (fuel : Nat) (ih : TgenOk P fuel) : TgenOk P (fuel + 1) := by
  intro base w p e E j hp hE hv hj hf
  have hlE : E.length ≤ P.orders.length ∧ P.orders.length ≤ E.length := by rw [hv.1]; omega
  have hn6 := hP.n6
  obtain ⟨g, cap, rfl, hgb, hgs⟩ := hE.form (by omega)
  obtain ⟨pb, po, rfl⟩ := hp.shape
  have hs := fun w => run_tail w (some ⟨g, 0, none⟩) E.length cap ((j : Int) + 1) (by omega) (by omega)
  go_enter Tryz.func89, Tryz.ntmps89
  have htl : Ints Any w (subSl (.slice (some ⟨g, 0, none⟩) E.length cap) (j + 1) E.length) (E.drop (j + 1)) := by
    have := subSl_ints (ints_of_own hE (by omega) (S := Any) (fun _ _ => trivial)) (j + 1) E.length (by omega) (by omega)
    rwa [List.take_length] at this
  have hxj := hv.2 j hj
  have hoj := hP.ord7 j hj
  go_wp2_with fail
  refine (clone_ok w _ (E.drop (j + 1)) Any htl (by simp; omega)).mono ?_
  rintro e1 w1 ⟨r, rfl, hg1, hR⟩
  clear htl hs
  have hRl : (E.drop (j + 1)).length + j + 1 = E.length := by simp; omega
  have hRv : ∀ k, k < (E.drop (j + 1)).length → 0 ≤ gt (E.drop (j + 1)) k ∧ gt (E.drop (j + 1)) k ≤ 7 := by
    intro k hk
    have h1 := hv.2 (j + 1 + k) (by omega)
    have h2 := hP.ord7 (j + 1 + k) (by omega)
    have h3 : gt (E.drop (j + 1)) k = gt E (j + 1 + k) := by simp only [gt, List.getD_eq_getElem?_getD, List.getElem?_drop]
    rw [h3]; omega
  have hRi : Ints (From w.heap.size) w1 r (E.drop (j + 1)) := ints_of_own hR (by omega) (fun k hk => (hR.lt k hk).1)
  generalize hRe : E.drop (j + 1) = R at *
  obtain ⟨ar, capr, rfl, _, _⟩ := hRi.shape
  have hRl1 : R.length + j + 1 ≤ E.length ∧ E.length ≤ R.length + j + 1 := by omega
  have HR := Lib.hid hRe; clear hRe hRl
  have HRv := Lib.hid hRv; clear hRv
  go_wp2
  go_loopw [17] (fun i wr => ∃ k : Nat, i = .int .i64 k ∧ k ≤ R.length ∧ w1.grownBy wr (some g) ∧ Own base wr (.slice (some ⟨g, 0, none⟩) E.length cap) (zeroed E j k)) (fun i _ => R.length - (intOf i).toNat)
  case atStart => exact ⟨0, rfl, by omega, grown_refl _ _, by rw [zeroed_zero]; exact hE.ext hg1 (.inr (by simp [Value.ownBlock]))⟩
  case round =>
    obtain ⟨k, rfl, hk, hg, hO⟩ := hrel
    by_cases hlt : k < R.length
    · have hlz := length_zeroed E j k (by omega)
      have hc := hO.cell (j + 1 + k) (by omega)
      have hfz := hO.frozen (j + 1 + k)
      have HL := Lib.hid hlz; clear hlz
      go_wp2
      go_roundw
      case rel =>
        obtain ⟨h1, h2⟩ := hO.store (j + 1 + k) 0
        exact ⟨k + 1, by go_num, by omega, grown_trans hg h2, by rw [zeroed_succ _ _ _ (by omega)]; exact h1⟩
      case measure => simp [intOf]; omega
    · have hke : k = R.length := by omega
      subst hke
      have hlz := length_zeroed E j R.length (by omega)
      have hzj : gt (zeroed E j R.length) j = gt E j := by rw [gt_zeroed _ _ _ _ (by omega), if_neg (by omega)]
      have hc := hO.cell j (by omega)
      rw [hzj] at hc
      have hfz := hO.frozen j
      have HL := Lib.hid hlz; clear hlz
      have hs1 := hO.store j (gt E j + 1)
      clear hzj
      go_wp2
      generalize hW : wr.setCell ⟨g, j, none⟩ (.int .i64 (gt E j + 1)) = W2 at hs1 ⊢
      obtain ⟨hO2, hg2⟩ := hs1
      clear hW hc hfz
      have hgw : w.grownBy W2 (some g) := grown_trans (grown_trans (grown_of_ext _ hg1) hg) hg2
      obtain ⟨ao, capo, hc0, hqo⟩ := (hp.mono (frame_of hgw fun k h _ => ⟨h, h⟩)).ordAt
      obtain ⟨bo, oo, rfl, _, _, hco⟩ := Ints.at hqo j hj
      have hlz1 : ((zeroed E j R.length).set j (gt E j + 1)).length = E.length := by rw [List.length_set]; exact HL.out
      have hce := hO2.cell j (by omega)
      rw [gt_set_eq _ _ _ (by have := HL.out; omega)] at hce
      have hfe := hO2.frozen j
      have hR2 : Ints (Off (some g)) W2 (.slice ar R.length capr) R := (hRi.sub (S' := Off (some g)) (fun k hk _ => by unfold Off; intro he; cases he; have : w.heap.size ≤ g := hk; omega)).mono (frame_of (grown_trans hg hg2) fun k h _ => ⟨h, h⟩)
      have hv1 : Vec P.orders (zeroed E j R.length) := hv.zeroed j R.length (by omega)
      have HV1 := Lib.hid hv1; clear hv1
      have HL1 := Lib.hid hlz1; clear hlz1
      clear hg hg2 hO hR hRi hg1 hk hlt hqo
      have hcl := hP.cv j hj
      have hclen : R.length ≤ (gt P.conj j).length := by rw [hcl.1]; omega
      have hjc : j < P.conj.length := by rw [hP.cl]; exact hj
      have hcz : ∀ k, k < R.length → Vec P.orders (gt (gt P.conj j) k) ∧ (∀ i, i < P.orders.length → gt (gt (gt P.conj j) k) i ≠ 0 → P.orders.length ≤ fuel + i) := by
        intro k hk
        obtain ⟨h1, h2⟩ := hcl.2 k (by omega)
        refine ⟨h1, fun i hi h0 => ?_⟩
        have : ¬ i ≤ j := fun h => h0 (h2 i h)
        omega
      have HCZ := Lib.hid hcz; clear hcz hcl
      have hfin : ∀ E2, E2 = (if gt E j + 1 = gt P.orders j then tvec (tgen P fuel) (((zeroed E j R.length).set j (gt E j + 1)).set j 0) (gt P.powers j) else (zeroed E j R.length).set j (gt E j + 1)) →
          tgen P (fuel + 1) E j = tconjTo (tgen P fuel) (gt P.conj j) R E2 R.length := by
        intro E2 h2
        have hr : R = E.drop (j + 1) := HR.out.symm
        rw [h2, hr]; rfl
      have HF := Lib.hid hfin; clear hfin
      by_cases hcar : gt E j + 1 = gt P.orders j
      case' pos =>
        have hb : (gt E j + 1 == gt P.orders j) = true := by simp [hcar]
        obtain ⟨E2, hE2⟩ : ∃ E2, E2 = tvec (tgen P fuel) (((zeroed E j R.length).set j (gt E j + 1)).set j 0) (gt P.powers j) := ⟨_, rfl⟩
        have HF2 := Lib.hid (HF.out E2 (by rw [if_pos hcar]; exact hE2)); clear HF
        have hv4 : Vec P.orders (((zeroed E j R.length).set j (gt E j + 1)).set j 0) := by rw [List.set_set]; exact HV1.out.set j 0 ⟨by omega, fun _ => by omega⟩
        have hpv := hP.pv j hj
        have hzp : ∀ i, i < P.orders.length → gt (gt P.powers j) i ≠ 0 → P.orders.length ≤ fuel + i := by
          intro i hi h0
          have : ¬ i ≤ j := fun h => h0 (hpv.2 i h)
          omega
        have hv5 : Vec P.orders E2 := by
          rw [hE2]
          exact tvec_vec hpv.1 (fun e i he hi h0 => tgen_vec hP fuel e i he hi (hzp i hi h0)) hv4
        have HE2 := Lib.hid hE2; clear hE2
        have HC := Lib.hid hcar; clear hcar
        have HZP := Lib.hid hzp; clear hzp
        have HPV := Lib.hid hpv.1; clear hpv
        go_quiet (fail)
        rename_i nq _
        have hO3 : Own base (W2.drewN nq) (.slice (some ⟨g, 0, none⟩) E.length cap) ((zeroed E j R.length).set j (gt E j + 1)) := hO2
        have hgw3 : w.grownBy (W2.drewN nq) (some g) := grown_trans hgw (grown_drewN _ _ _)
        have hR3 : Ints (Off (some g)) (W2.drewN nq) (.slice ar R.length capr) R := hR2.mono (frame_of (grown_drewN _ _ (some g)) fun k h _ => ⟨h, h⟩)
        have hce3 : (W2.drewN nq).cell? ⟨g, j, none⟩ = some (.int .i64 (gt E j + 1)) := hce
        have hfe3 : (W2.drewN nq).frozen? ⟨g, j, none⟩ = false := hfe
        clear hco hce hfe hc0 hO2 hR2 hgw
        generalize W2.drewN nq = W3 at *
        obtain ⟨hO4, hg4⟩ := hO3.store j 0
        have hgw4 : w.grownBy (W3.setCell ⟨g, j, none⟩ (.int .i64 0)) (some g) := grown_trans hgw3 hg4
        have hp4 : PresP (Off (some g)) (W3.setCell ⟨g, j, none⟩ (.int .i64 0)) (.pointer (some ⟨pb, po, none⟩)) P := hp.mono (frame_of hgw4 fun k h _ => ⟨h, h⟩)
        obtain ⟨ap, capp, hpc, hpr⟩ := hp4.powAt
        obtain ⟨bp, op, ar2, capr2, rfl, _, _, hprc, hpri⟩ := Rows2.at hpr j (by rw [hP.pl]; exact hj)
        have hjp : j < P.powers.length := by rw [hP.pl]; exact hj
        go_wp2_with fail
        refine Calls.mono (timesVector_of P hP fuel ih base _ _ _ _ _ (gt P.powers j) ?_ ?_ hv4 ?_ HPV.out HZP.out) ?_
        · exact hp4
        · exact hO4
        · exact hpri
        rintro e5 W5 ⟨v5, rfl, hg5, rfl, hO5⟩
        rw [← HE2.out] at hO5
        have hgw5 : w.grownBy W5 (some g) := grown_trans hgw4 hg5
        have hR5 : Ints (Off (some g)) W5 (.slice ar R.length capr) R := hR3.mono (frame_of (grown_trans hg4 hg5) fun k h _ => ⟨h, h⟩)
        clear hce3 hfe3 hO3 hR3 hgw3 hp4 hpc hpr hprc hpri hO4 hg4 hgw4 hg5
        go_wp2
      case' neg =>
        have hb : (gt E j + 1 == gt P.orders j) = false := by simp [hcar]
        obtain ⟨E2, hE2⟩ : ∃ E2, E2 = (zeroed E j R.length).set j (gt E j + 1) := ⟨_, rfl⟩
        have HF2 := Lib.hid (HF.out E2 (by rw [if_neg hcar]; exact hE2)); clear HF
        have hv5 : Vec P.orders E2 := by rw [hE2]; exact HV1.out.set j _ ⟨by omega, fun _ => by omega⟩
        rw [← hE2] at hO2
        have HC := Lib.hid hcar; clear hcar hE2
        go_quiet (fail)
        rename_i nq _
        have hgw5 : w.grownBy (W2.drewN nq) (some g) := grown_trans hgw (grown_drewN _ _ _)
        have hO5 : Own base (W2.drewN nq) (.slice (some ⟨g, 0, none⟩) E.length cap) E2 := hO2
        have hR5 : Ints (Off (some g)) (W2.drewN nq) (.slice ar R.length capr) R := hR2.mono (frame_of (grown_drewN _ _ (some g)) fun k h _ => ⟨h, h⟩)
        go_wp2
        clear hco hce hfe hc0 hO2 hR2 hgw
        generalize W2.drewN nq = W5 at *
      all_goals
        go_loopw [60] (fun i wr => ∃ k : Nat, i = .int .i64 k ∧ k ≤ R.length ∧ W5.grownBy wr (some g) ∧ Own base wr (.slice (some ⟨g, 0, none⟩) E.length cap) (tconjTo (tgen P fuel) (gt P.conj j) R E2 k) ∧ Vec P.orders (tconjTo (tgen P fuel) (gt P.conj j) R E2 k)) (fun i _ => R.length - (intOf i).toNat)
        case atStart => exact ⟨0, rfl, by omega, grown_refl _ _, hO5, hv5⟩
        case round =>
          obtain ⟨k, rfl, hk, hg, hO, hvk⟩ := hrel
          by_cases hlt : k < R.length
          · have HCk := Lib.hid (HCZ.out k hlt); clear HCZ
            have hRk := HRv.out k hlt
            have hx0 : 0 ≤ gt R k := hRk.1
            have hx7 : gt R k ≤ 7 := hRk.2
            obtain ⟨br, or, rfl, hbr, _, hcr0⟩ := Ints.at hR5 k hlt
            have hcr : wr.cell? ⟨br, or + k, none⟩ = some (.int .i64 (gt R k)) := hg.cell hcr0 (fun h => hbr h.symm)
            clear hcr0 hRk
            go_wp2
            go_loopw [66] (fun i wr => ∃ m : Nat, i = .int .i64 m ∧ m ≤ (gt R k).toNat ∧ W5.grownBy wr (some g) ∧ Own base wr (.slice (some ⟨g, 0, none⟩) E.length cap) (iter m (fun e => tvec (tgen P fuel) e (gt (gt P.conj j) k)) (tconjTo (tgen P fuel) (gt P.conj j) R E2 k)) ∧ Vec P.orders (iter m (fun e => tvec (tgen P fuel) e (gt (gt P.conj j) k)) (tconjTo (tgen P fuel) (gt P.conj j) R E2 k))) (fun i _ => (gt R k).toNat - (intOf i).toNat)
            case atStart => exact ⟨0, rfl, by omega, hg, hO, hvk⟩
            case round =>
              clear hg hO hcr hvk
              obtain ⟨m, rfl, hm, hg, hO, hvk⟩ := hrel
              by_cases hlt2 : (m : Int) < gt R k
              · have hp6 : PresP (Off (some g)) wr (.pointer (some ⟨pb, po, none⟩)) P := hp.mono (frame_of (grown_trans hgw5 hg) fun k h _ => ⟨h, h⟩)
                obtain ⟨ac, capc, hcc, hcr⟩ := hp6.conjAt
                obtain ⟨bc, oc, ac2, capc2, rfl, _, _, hc6, hcr6⟩ := Rows3.at hcr j hjc
                obtain ⟨bd, od, ad2, capd2, rfl, _, _, hc7, hcr7⟩ := Rows2.at hcr6 k (by omega)
                clear hcr hcr6
                go_wp2_with fail
                refine Calls.mono (timesVector_of P hP fuel ih base wr _ _ _ _ (gt (gt P.conj j) k) hp6 hO hvk hcr7 HCk.out.1 HCk.out.2) ?_
                rintro e6 W6 ⟨v6, rfl, hg6, rfl, hO6⟩
                have hg7 : W5.grownBy W6 (some g) := grown_trans hg hg6
                have hv7 := tvec_vec HCk.out.1 (fun e i he hi h0 => tgen_vec hP fuel e i he hi (HCk.out.2 i hi h0)) hvk
                clear hc6 hc7 hcc hcr7 hp6 hO hg6 hg
                go_wp2
                go_roundw
                case rel => exact ⟨m + 1, by go_num, by omega, hg7, hO6, hv7⟩
                case measure => simp [intOf]; omega
              · have hme : m = (gt R k).toNat := by omega
                subst hme
                go_wp2
                go_roundw
                case rel => exact ⟨k + 1, by go_num, by omega, hg, hO, hvk⟩
                case measure => simp [intOf]; omega
          · have hke : k = R.length := by omega
            subst hke
            go_wp2
            go_end0
            exact ⟨_, rfl, grown_trans hgw5 hg, rfl, by rw [HF2.out]; exact hO⟩

end Go.Proofs.YtoakmefajbbggaaGreat
namespace Go.Proofs.YtoakmefajbbggaaGreat
open Go.RowKit

/-- a reading that names the blocks that it uses -/
structure RdOk {α : Type} (El : (Nat → Prop) → World → Value → α → Prop) : Prop where
  mono : ∀ {F F' : Nat → Prop} {w w' : World} {u : Value} {x : α}, El F w u x → (∀ k, F k → k < w.heap.size → F' k ∧ k < w'.heap.size ∧ w'.heap[k]? = w.heap[k]?) → El F' w' u x
  one : ∀ {F : Nat → Prop} {w : World} {u : Value} {x : α}, El F w u x → u.oneCell' = true

/-- a slice whose elements lie in blocks of their own, apart from each other and from the slice's array; all in F -/
def SlD {α : Type} [Inhabited α] (El : (Nat → Prop) → World → Value → α → Prop) (F : Nat → Prop) (w : World) (v : Value) (xs : List α) : Prop :=
  ∃ (G : Nat → Nat → Prop) (H : Nat → Prop), (∀ k, H k → F k) ∧ (∀ i k, i < xs.length → G i k → F k ∧ ¬ H k) ∧ (∀ i j k, i < xs.length → j < xs.length → G i k → G j k → i = j) ∧
    ∃ a cap, v = .slice a xs.length cap ∧ (xs.length ≤ cap ∧ xs.length ≤ 9223372036854775807 ∧ (a = none → cap = 0)) ∧
      ∀ i, i < xs.length → ∃ b off u, a = some ⟨b, off, none⟩ ∧ H b ∧ b < w.heap.size ∧ w.cell? ⟨b, off + i, none⟩ = some u ∧ El (G i) w u (gt xs i)

/-- a slice of the call's own, whose elements lie in blocks of their own -/
def SlO {α : Type} [Inhabited α] (El : (Nat → Prop) → World → Value → α → Prop) (E B : Nat) (w : World) (v : Value) (xs : List α) : Prop :=
  ∃ (vs : List Value) (G : Nat → Nat → Prop), vs.length = xs.length ∧ OwnV B E w v vs ∧ (∀ i k, i < xs.length → G i k → B ≤ k ∧ v.ownBlock ≠ some k ∧ k < w.heap.size) ∧
    (∀ i j k, i < xs.length → j < xs.length → G i k → G j k → i = j) ∧ ∀ i, i < xs.length → El (G i) w (gt vs i) (gt xs i)

theorem SlO.nil {α : Type} [Inhabited α] (El : (Nat → Prop) → World → Value → α → Prop) (E B : Nat) (w : World) : SlO El E B w (.slice none 0 0) ([] : List α) :=
  ⟨[], fun _ _ => False, rfl, World.ownsRow_nil _ _ _ _, by simp, by simp, by simp⟩

theorem OwnV.form {B E : Nat} {w : World} {v : Value} {xs : List Value} (h : OwnV B E w v xs) :
    (v = .slice none 0 0 ∧ xs = []) ∨ ∃ g cap, v = .slice (some ⟨g, 0, none⟩) xs.length cap ∧ xs.length ≤ cap ∧ B ≤ g ∧ g < w.heap.size := by
  have hlt := h.lt
  obtain ⟨_, h | ⟨g, cap, cur, hv, hg, hb, hnc, _⟩⟩ := h
  · exact .inl ⟨h.1, List.eq_nil_of_length_eq_zero h.2⟩
  · exact .inr ⟨g, cap, hv, hnc, hg, (hlt g (by rw [hv]; rfl)).2⟩

theorem OwnV.cell {B E g cap n : Nat} {w : World} {xs : List Value} (h : OwnV B E w (.slice (some ⟨g, 0, none⟩) n cap) xs) (j : Nat) (hj : j < xs.length) : w.cell? ⟨g, j, none⟩ = some (gt xs j) := by
  have hn : n = xs.length := by
    obtain ⟨_, ⟨h, _⟩ | ⟨_, _, _, h, _⟩⟩ := h <;> cases h; rfl
  subst hn
  have := World.ownsRow.cellAt h j (by omega)
  rw [this]; simp [gt, hj]

theorem SlO.toD {α : Type} [Inhabited α] {El : (Nat → Prop) → World → Value → α → Prop} {E B : Nat} {w : World} {v : Value} {xs : List α} (h : SlO El E B w v xs) (hl : xs.length ≤ 9223372036854775807) : SlD El (From B) w v xs := by
  obtain ⟨vs, G, hvl, hO, hG, hd, hE⟩ := h
  refine ⟨G, fun k => B ≤ k ∧ v.ownBlock = some k, fun k hk => hk.1, fun i k hi hk => ⟨(hG i k hi hk).1, fun h => (hG i k hi hk).2.1 h.2⟩, hd, ?_⟩
  rcases hO.form with ⟨rfl, rfl⟩ | ⟨g, cap, rfl, hnc, hBg, hgs⟩
  · have : xs.length = 0 := by simpa using hvl.symm
    exact ⟨none, 0, by rw [this], ⟨by omega, by omega, fun _ => rfl⟩, fun i hi => by omega⟩
  · refine ⟨_, cap, by rw [hvl], ⟨by omega, hl, fun h => by cases h⟩, fun i hi => ⟨g, 0, gt vs i, rfl, ⟨hBg, rfl⟩, hgs, ?_, hE i hi⟩⟩
    rw [Nat.zero_add]; exact hO.cell i (by omega)

theorem SlD.shape {α : Type} [Inhabited α] {El : (Nat → Prop) → World → Value → α → Prop} {F : Nat → Prop} {w : World} {v : Value} {xs : List α} (h : SlD El F w v xs) :
    ∃ a cap, v = .slice a xs.length cap ∧ xs.length ≤ cap ∧ xs.length ≤ 9223372036854775807 := by
  obtain ⟨_, _, _, _, _, a, cap, hv, hl, _⟩ := h; exact ⟨a, cap, hv, hl.1, hl.2.1⟩

/-- a list of integers in a block that may be written -/
def OwnIn (F : Nat → Prop) (w : World) (v : Value) (l : List Int) : Prop := Own 0 w v l ∧ (∀ k, v.ownBlock = some k → F k) ∧ l.length ≤ 9223372036854775807

theorem ownsRow_move {base base' E : Nat} {w w' : World} {v : Value} {n : Nat} {xs : List Value} (h : w.ownsRow base E 1 v n xs) (hb : ∀ k, v.ownBlock = some k → w'.heap[k]? = w.heap[k]? ∧ base' ≤ k) : w'.ownsRow base' E 1 v n xs := by
  obtain ⟨h1, h2⟩ := h
  refine ⟨h1, ?_⟩
  rcases h2 with h | ⟨g, cap, cur, rfl, hg, hc, r⟩
  · exact .inl h
  · exact .inr ⟨g, cap, cur, rfl, (hb g rfl).2, by rw [(hb g rfl).1]; exact hc, r⟩

theorem rdOwn : RdOk OwnIn := by
  refine ⟨fun {F F' w w' u x} h hb => ?_, fun {F w u x} h => ?_⟩
  · obtain ⟨h1, h2, h3⟩ := h
    have hlt := h1.lt
    exact ⟨ownsRow_move h1 (fun k hk => ⟨(hb k (h2 k hk) (hlt k hk).2).2.2, Nat.zero_le _⟩), fun k hk => (hb k (h2 k hk) (hlt k hk).2).1, h3⟩
  · obtain ⟨⟨_, h | ⟨g, cap, cur, hv, _⟩⟩, _⟩ := h
    · rw [h.1]; rfl
    · rw [hv]; rfl

theorem OwnIn.ints {F : Nat → Prop} {w : World} {v : Value} {l : List Int} (h : OwnIn F w v l) : Ints F w v l := ints_of_own h.1 h.2.2 h.2.1
theorem OwnIn.of {base : Nat} {F : Nat → Prop} {w : World} {v : Value} {l : List Int} (h : Own base w v l) (hl : l.length ≤ 9223372036854775807) (hF : ∀ k, base ≤ k → k < w.heap.size → F k) : OwnIn F w v l :=
  ⟨h.weak (Nat.zero_le _), fun k hk => hF k (h.lt k hk).1 (h.lt k hk).2, hl⟩
abbrev RowsD (F : Nat → Prop) (w : World) (v : Value) (xs : List (List Int)) : Prop := SlD OwnIn F w v xs
abbrev RowsO (B : Nat) (w : World) (v : Value) (xs : List (List Int)) : Prop := SlO OwnIn 24 B w v xs

abbrev Rows3D (F : Nat → Prop) (w : World) (v : Value) (xs : List (List (List Int))) : Prop := SlD (fun F w u (x : List (List Int)) => RowsD F w u x) F w v xs

/-- plain reading -/
theorem RowsD.rows {F : Nat → Prop} {w : World} {v : Value} {xs : List (List Int)} (h : RowsD F w v xs) : Rows2 F w v xs := by
  obtain ⟨G, H, h1, h2, h3, a, cap, hv, hl, hc⟩ := h
  refine ⟨a, cap, hv, hl, fun i hi => ?_⟩
  obtain ⟨b, off, u, e1, e2, e3, e4, e5⟩ := hc i hi
  exact ⟨b, off, u, e1, h1 b e2, e3, e4, Ints.sub e5.ints (fun k hk _ => (h2 i k hi hk).1)⟩

theorem Rows3D.rows {F : Nat → Prop} {w : World} {v : Value} {xs : List (List (List Int))} (h : Rows3D F w v xs) : Rows3 F w v xs := by
  obtain ⟨G, H, h1, h2, h3, a, cap, hv, hl, hc⟩ := h
  refine ⟨a, cap, hv, hl, fun i hi => ?_⟩
  obtain ⟨b, off, u, e1, e2, e3, e4, e5⟩ := hc i hi
  exact ⟨b, off, u, e1, h1 b e2, e3, e4, Rows2.sub (RowsD.rows e5) (fun k hk _ => (h2 i k hi hk).1)⟩

theorem SlO.weak {α : Type} [Inhabited α] {El : (Nat → Prop) → World → Value → α → Prop} {E B B' : Nat} {w : World} {v : Value} {xs : List α} (h : SlO El E B w v xs) (hB : B' ≤ B) : SlO El E B' w v xs := by
  obtain ⟨vs, G, hvl, hO, hG, hd, hE⟩ := h
  refine ⟨vs, G, hvl, ?_, fun i k hi hk => ?_, hd, hE⟩
  · obtain ⟨h1, h2⟩ := hO
    refine ⟨h1, ?_⟩
    rcases h2 with h | ⟨g, cap, cur, hv, hg, r⟩
    · exact .inl h
    · exact .inr ⟨g, cap, cur, hv, Nat.le_trans hB hg, r⟩
  · obtain ⟨a, b, c⟩ := hG i k hi hk
    exact ⟨Nat.le_trans hB a, b, c⟩

/-- append of one element that was made since -/
theorem wp_app_one {α : Type} [Inhabited α] {El : (Nat → Prop) → World → Value → α → Prop} (hEl : RdOk El) (T E : Nat) (z : Value) (bytes : Nat) (hT : Tryz.prog.underlying T = some (.slice E))
    (hE : (Tryz.prog.info? E).map (fun i => (i.zero, i.size, i.bytes)) = some (some z, 1, bytes)) (hzs : z.cells.size = 1) (hbt : bytes ≤ 64)
    {ops : Array Oper} {rest : List Oper} {o : Oper} {a : Act} {Q : Exit → Act → World → Prop} {w : World} (hgd : o.guard = none) (s x : Operand)
    (ho : o.op = Op.call { callee := Callee.builtin Builtin.append, args := #[s, x], argTypes := #[T, T] }) (B : Nat) (w1 w2 : World) (v u : Value) (xs : List α) (y : α) (hs : a.eval s = v) (hown : SlO El E B w1 v xs)
    (hg : Ext w1 w2) (hu : El (From w1.heap.size) w2 u y) (hw : w = w2.alloc (.cells #[u] E)) (hx : a.eval x = .slice (some ⟨w2.heap.size, 0, none⟩) 1 1) (hlen : xs.length ≤ 1000000) (hbase : B ≤ w1.heap.size)
    (h : ∀ v' w', SlO El E B w' v' (xs ++ [y]) → w1.grownBy w' v.ownBlock → w2.grownBy w' v.ownBlock → wpList Tryz.prog ops Q rest (a.put o.dst v') w') :
    wpList Tryz.prog ops Q (o :: rest) a w := by
  subst hw
  obtain ⟨vs, G, hvl, hO, hG, hd, hEx⟩ := hown
  have hga : Ext w2 (w2.alloc (.cells #[u] E)) := World.grownBy_alloc _ _ _
  have hO2 : OwnV B E (w2.alloc (.cells #[u] E)) v vs := hO.kept (grown_trans hg hga) (by cases hv : v.ownBlock <;> simp)
  refine wp_app T E z bytes hT hE hzs hbt hgd s x ho B v vs hs hO2 (some ⟨w2.heap.size, 0, none⟩) 1 1 [u] hx rfl (by simp) ?_ ?_ (by omega) (by have := hg.size; simp; omega) ?_
  · intro j hj
    have : j = 0 := by omega
    subst this
    exact ⟨w2.heap.size, 0, rfl, by rw [World.cell?_alloc_at _ _ _ _ rfl]; rfl⟩
  · intro u' hu'
    simp at hu'; subst hu'; exact hEl.one hu
  · intro v' w' h1 h2 _ hat
    have hvb : ∀ k, v.ownBlock = some k → B ≤ k ∧ k < w1.heap.size := hO.lt
    have hg2 : w2.grownBy w' v.ownBlock := grown_trans (grown_of_ext _ hga) h2
    have hg1 : w1.grownBy w' v.ownBlock := grown_trans (grown_of_ext _ hg) hg2
    have hv'b : ∀ k, v'.ownBlock = some k → v.ownBlock = some k ∨ w2.heap.size < k := by
      intro k hk
      rcases hat with h | h
      · exact .inl (by rw [← h]; exact hk)
      · rw [h] at hk
        have : (w2.alloc (.cells #[u] E)).heap.size = k := by simpa using hk
        simp at this
        exact .inr (by omega)
    refine h v' w' ⟨vs ++ [u], fun i k => if i < xs.length then G i k ∧ k < w1.heap.size else w1.heap.size ≤ k ∧ k < w2.heap.size, by simp [hvl], h1, ?_, ?_, ?_⟩ hg1 hg2
    · intro i k hi hk
      split at hk
      · rename_i hlt
        obtain ⟨a1, a2, a3⟩ := hG i k hlt hk.1
        refine ⟨a1, fun hv' => ?_, Nat.lt_of_lt_of_le a3 hg1.size⟩
        rcases hv'b k hv' with h | h
        · exact a2 h
        · have := hg.size; omega
      · refine ⟨by omega, fun hv' => ?_, Nat.lt_of_lt_of_le hk.2 hg2.size⟩
        rcases hv'b k hv' with h | h
        · have := hvb k h; omega
        · omega
    · intro i j k hi hj hk hk'
      simp only [List.length_append, List.length_singleton] at hi hj
      split at hk <;> split at hk'
      · exact hd i j k (by assumption) (by assumption) hk.1 hk'.1
      · omega
      · omega
      · omega
    · intro i hi
      simp only [List.length_append, List.length_singleton] at hi
      by_cases hlt : i < xs.length
      · rw [gt_append_left _ _ _ (by omega), gt_append_left _ _ _ hlt]
        simp only [if_pos hlt]
        exact hEl.mono (hEx i hlt) (fun k hk hkl => ⟨⟨hk, hkl⟩, Nat.lt_of_lt_of_le hkl hg1.size, hg1.block k hkl (fun e => (hG i k hlt hk).2.1 e.symm)⟩)
      · have hi2 : i = xs.length := by omega
        subst hi2
        rw [gt_concat, ← hvl, gt_concat]
        simp only [hvl, Nat.lt_irrefl, if_false]
        exact hEl.mono hu (fun k hk hkl => ⟨⟨hk, hkl⟩, Nat.lt_of_lt_of_le hkl hg2.size, hg2.block k hkl (fun e => by
          have hk : w1.heap.size ≤ k := hk
          have := hvb k e.symm; omega)⟩)

end Go.Proofs.YtoakmefajbbggaaGreat
namespace Go.Proofs.YtoakmefajbbggaaGreat
open Go.RowKit

theorem tgenOk (P : Pr) (hP : Valid P) (f : Nat) : TgenOk P f := by
  induction f with
  | zero => intro base w p e E j _ _ _ hj hf; omega
  | succ f ih => exact timesGenerator_of P hP f ih

theorem timesGenerator_ok (P : Pr) (hP : Valid P) (base : Nat) (w : World) (p e : Value) (E : List Int) (j : Nat) (hp : PresP (Off e.ownBlock) w p P) (hE : Own base w e E) (hv : Vec P.orders E) (hj : j < P.orders.length) :
    Calls Tryz.prog 89 #[p, e, .int .i64 j] w (Mut w e.ownBlock fun w' v => v = .tuple #[] ∧ Own base w' e (tg P E j)) :=
  tgenOk P hP _ base w p e E j hp hE hv hj (by omega)

theorem timesVector_ok (P : Pr) (hP : Valid P) (base : Nat) (w : World) (p e f : Value) (E F : List Int) (hp : PresP (Off e.ownBlock) w p P) (hE : Own base w e E)
    (hv : Vec P.orders E) (hf : Ints (Off e.ownBlock) w f F) (hF : Vec P.orders F) :
    Calls Tryz.prog 128 #[p, e, f] w (Mut w e.ownBlock fun w' v => v = .tuple #[] ∧ Own base w' e (tv P E F)) :=
  timesVector_of P hP _ (tgenOk P hP _) base w p e f E F hp hE hv hf hF (fun j hj _ => by omega)

/-- what was there before an own vector was made lies apart from it -/
theorem off_of {base : Nat} {w w1 : World} {v : Value} {l : List Int} {S : Nat → Prop} (hO : Own base w1 v l) (hb : w.heap.size ≤ base) (hg : Ext w w1) :
    ∀ k, S k → k < w.heap.size → Off v.ownBlock k ∧ k < w1.heap.size ∧ w1.heap[k]? = w.heap[k]? := by
  intro k _ hk
  refine ⟨fun h => ?_, Nat.lt_of_lt_of_le hk hg.size, hg.block k hk (by simp)⟩
  have := (hO.lt k h).1; omega

/-- a step that writes an own vector turns nothing that was there before -/
theorem mut_ext {base : Nat} {w w1 w2 : World} {v : Value} {l : List Int} (hg : Ext w w1) (hO : Own base w1 v l) (hb : w.heap.size ≤ base) (h : w1.grownBy w2 v.ownBlock) : Ext w w2 :=
  grown_own hg h (fun j hj hlt => by have := (hO.lt j hj).1; omega)

set_option maxHeartbeats 400000 in
theorem multiply_ok (P : Pr) (hP : Valid P) (w : World) (p a b : Value) (A B : List Int) (Sp Sa Sb : Nat → Prop) (hp : PresP Sp w p P) (ha : Ints Sa w a A) (hb : Ints Sb w b B) (hA : Vec P.orders A) (hB : Vec P.orders B) :
    Calls Tryz.prog 149 #[p, a, b] w (Ret w fun w' v => Own w.heap.size w' v (tv P A B)) := by
  have hn6 := hP.n6
  have hlA : A.length ≤ 6 := by rw [hA.1]; omega
  go_enter Tryz.func149, Tryz.ntmps149
  go_wp2_with fail
  refine Calls.mono (clone_ok w a A Sa ha (by omega)) ?_
  rintro e1 w1 ⟨r, rfl, hg1, hR⟩
  go_wp2_with fail
  refine Calls.mono (timesVector_ok P hP w.heap.size w1 p r b A B (hp.mono (off_of hR (Nat.le_refl _) hg1)) hR hA (hb.mono (off_of hR (Nat.le_refl _) hg1)) hB) ?_
  rintro e2 w2 ⟨v2, rfl, hg2, rfl, hR2⟩
  go_wp2
  go_ret
  exact ⟨_, rfl, mut_ext hg1 hR (Nat.le_refl _) hg2, hR2⟩

def iPow (P : Pr) (a : List Int) (k : Int) : List Int := iter k.toNat (fun out => tv P out a) (List.replicate a.length 0)

theorem zeros_vec' {P : Pr} (hP : Valid P) {a : List Int} (ha : Vec P.orders a) : Vec P.orders (List.replicate a.length 0) := by
  refine ⟨by rw [List.length_replicate]; exact ha.1, fun i hi => ?_⟩
  have := hP.ord7 i hi
  rw [gt_replicate]; omega

theorem iPow_vec {P : Pr} (hP : Valid P) (a : List Int) (k : Int) (ha : Vec P.orders a) : Vec P.orders (iPow P a k) :=
  iter_inv (Vec P.orders) _ (fun y hy => tv_vec hP y a hy ha) _ _ (zeros_vec' hP ha)

set_option maxHeartbeats 400000 in
theorem power_ok (P : Pr) (hP : Valid P) (w : World) (p a : Value) (A : List Int) (k : Int) (Sp Sa : Nat → Prop) (hp : PresP Sp w p P) (ha : Ints Sa w a A) (hA : Vec P.orders A) (hk : k ≤ 1000000000) :
    Calls Tryz.prog 196 #[p, a, .int .i64 k] w (Ret w fun w' v => Own w.heap.size w' v (iPow P A k)) := by
  have hn6 := hP.n6
  have hlA : A.length ≤ 6 := by rw [hA.1]; omega
  obtain ⟨aa, capa, rfl, _, _⟩ := ha.shape
  go_enter Tryz.func196, Tryz.ntmps196
  go_wp2_with (at_make; refine wp_make_ints rfl _ _ rfl w.heap.size A.length w.heap.size rfl _ rfl rfl rfl (by omega) (Nat.le_refl _) ?_; intro w1 ho1 hg1 _)
  generalize Value.slice (some ⟨w.heap.size, 0, none⟩) A.length A.length = r at *
  go_loopw [12] (fun i wr => ∃ m : Nat, i = .int .i64 m ∧ m ≤ k.toNat ∧ Ext w wr ∧ Own w.heap.size wr r (iter m (fun out => tv P out A) (List.replicate A.length 0))) (fun i _ => k.toNat - (intOf i).toNat)
  case atStart => exact ⟨0, rfl, by omega, hg1, ho1⟩
  case round =>
    obtain ⟨m, rfl, hm, hg, hO⟩ := hrel
    by_cases hlt : (m : Int) < k
    · have hvm : Vec P.orders (iter m (fun out => tv P out A) (List.replicate A.length 0)) := iter_inv (Vec P.orders) _ (fun y hy => tv_vec hP y A hy hA) _ _ (zeros_vec' hP hA)
      have HV := Lib.hid hvm; clear hvm
      go_wp2_with fail
      refine Calls.mono (timesVector_ok P hP w.heap.size wr p r _ _ A (hp.mono (off_of hO (Nat.le_refl _) hg)) hO HV.out (ha.mono (off_of hO (Nat.le_refl _) hg)) hA) ?_
      rintro e2 w2 ⟨v2, rfl, hg2, rfl, hR2⟩
      have hg3 := mut_ext hg hO (Nat.le_refl _) hg2
      go_wp2
      go_roundw
      case rel => exact ⟨m + 1, by go_num, by omega, hg3, hR2⟩
      case measure => simp [intOf]; omega
    · have hme : m = k.toNat := by omega
      have HO : Hid (Own w.heap.size wr r (iPow P A k)) := by rw [hme] at hO; exact hO
      clear hO hme
      go_wp2
      go_ret
      exact ⟨_, rfl, hg, HO.out⟩

end Go.Proofs.YtoakmefajbbggaaGreat
namespace Go.Proofs.YtoakmefajbbggaaGreat
open Go.RowKit

/-- how often a generator is still to be taken -/
def left_ (o x : Int) : Nat := if x = 0 then 0 else (o - x).toNat

def invTo (P : Pr) (a : List Int) : Nat → List Int × List Int
  | 0 => (a, List.replicate a.length 0)
  | k + 1 =>
    let s := invTo P a k
    let m := left_ (gt P.orders k) (gt s.1 k)
    (iter m (fun e => tg P e k) s.1, iter m (fun e => tg P e k) s.2)

def iInv (P : Pr) (a : List Int) : List Int := (invTo P a a.length).2

theorem iter_tg {P : Pr} (hP : Valid P) (e : List Int) (k : Nat) (hk : k < P.orders.length) (he : Vec P.orders e) (h0 : gt e k ≠ 0) (s : Nat) (hs : s ≤ left_ (gt P.orders k) (gt e k)) :
    Vec P.orders (iter s (fun e => tg P e k) e) ∧ gt (iter s (fun e => tg P e k) e) k = if s = left_ (gt P.orders k) (gt e k) then 0 else gt e k + s := by
  have hx := he.2 k hk
  have hl : left_ (gt P.orders k) (gt e k) = (gt P.orders k - gt e k).toNat := by unfold left_; rw [if_neg h0]
  rw [hl] at hs ⊢
  induction s with
  | zero => exact ⟨he, by rw [if_neg (by omega)]; simp [iter]⟩
  | succ s ih =>
    obtain ⟨h1, h2⟩ := ih (by omega)
    refine ⟨tg_vec hP _ k h1 hk, ?_⟩
    show gt (tg P (iter s (fun e => tg P e k) e) k) k = _
    have h3 := (tgen_entries hP P.orders.length (iter s (fun e => tg P e k) e) k h1 hk (by omega)).2
    rw [if_neg (by omega)] at h2
    have h4 : gt (tg P (iter s (fun e => tg P e k) e) k) k = if gt (iter s (fun e => tg P e k) e) k + 1 = gt P.orders k then 0 else gt (iter s (fun e => tg P e k) e) k + 1 := h3
    rw [h4, h2]
    by_cases hc : gt e k + s + 1 = gt P.orders k
    · rw [if_pos hc, if_pos (by omega)]
    · rw [if_neg hc, if_neg (by omega)]; omega

theorem invTo_vec {P : Pr} (hP : Valid P) (a : List Int) (ha : Vec P.orders a) (k : Nat) (hk : k ≤ P.orders.length) : Vec P.orders (invTo P a k).1 ∧ Vec P.orders (invTo P a k).2 := by
  induction k with
  | zero => exact ⟨ha, zeros_vec' hP ha⟩
  | succ k ih =>
    obtain ⟨h1, h2⟩ := ih (by omega)
    exact ⟨iter_inv (Vec P.orders) _ (fun y hy => tg_vec hP y k hy (by omega)) _ _ h1, iter_inv (Vec P.orders) _ (fun y hy => tg_vec hP y k hy (by omega)) _ _ h2⟩

set_option maxHeartbeats 1000000 in
theorem invert_ok (P : Pr) (hP : Valid P) (w : World) (p a : Value) (A : List Int) (Sp Sa : Nat → Prop) (hp : PresP Sp w p P) (ha : Ints Sa w a A) (hA : Vec P.orders A) :
    Calls Tryz.prog 127 #[p, a] w (Ret w fun w' v => Own w.heap.size w' v (iInv P A)) := by
  have hn6 := hP.n6
  have hlA : A.length ≤ P.orders.length ∧ P.orders.length ≤ A.length := by rw [hA.1]; omega
  obtain ⟨aa, capa, rfl, _, _⟩ := ha.shape
  go_enter Tryz.func127, Tryz.ntmps127
  go_wp2_with fail
  refine Calls.mono (clone_ok w _ A Sa ha (by omega)) ?_
  rintro e1 w1 ⟨r, rfl, hg1, hR⟩
  have hRi := hR.ints (by omega)
  obtain ⟨ar, capr, rfl, _, _⟩ := hRi.shape
  go_wp2_with (at_make; refine wp_make_ints rfl _ _ rfl w1.heap.size A.length w1.heap.size rfl _ rfl rfl rfl (by omega) (Nat.le_refl _) ?_; intro w2 ho2 hg2 _)
  generalize Value.slice (some ⟨w1.heap.size, 0, none⟩) A.length A.length = t at *
  have hR2 := hR.ext0 hg2
  have hRlt := hR.lt
  have HRL := Lib.hid hRlt
  clear hRi hR hRlt
  have hw2 : Ext w w2 := grown_trans hg1 hg2
  have hw1 := hg1.size
  go_loopw [15] (fun i wr => ∃ k : Nat, i = .int .i64 k ∧ k ≤ A.length ∧ Ext w wr ∧ Own w.heap.size wr (.slice ar A.length capr) (invTo P A k).1 ∧ Own w1.heap.size wr t (invTo P A k).2) (fun i _ => A.length - (intOf i).toNat)
  case atStart => exact ⟨0, rfl, by omega, hw2, hR2, ho2⟩
  case round =>
    clear hR2 ho2
    obtain ⟨k, rfl, hk, hg, hO, hT⟩ := hrel
    obtain ⟨hv1, hv2⟩ := invTo_vec hP A hA k (by omega)
    have HV1 := Lib.hid hv1; have HV2 := Lib.hid hv2
    by_cases hlt : k < A.length
    · have hx := hv1.2 k (by omega)
      have hok := hP.ord7 k (by omega)
      obtain ⟨g, capg, hfm, _, _⟩ := hO.form (by rw [hv1.1]; omega)
      have hlen : (invTo P A k).1.length = A.length := by rw [hv1.1, hA.1]
      rw [hlen] at hfm
      have hsucc : invTo P A (k + 1) = (iter (left_ (gt P.orders k) (gt (invTo P A k).1 k)) (fun e => tg P e k) (invTo P A k).1, iter (left_ (gt P.orders k) (gt (invTo P A k).1 k)) (fun e => tg P e k) (invTo P A k).2) := rfl
      have HSC := Lib.hid hsucc; clear hsucc
      obtain ⟨rfl, hcg⟩ : ar = some ⟨g, 0, none⟩ ∧ capr = capg := by cases hfm; exact ⟨rfl, rfl⟩
      clear hfm hcg hv1 hv2
      have hbt := hT.lt
      have hgl : g < w1.heap.size := (HRL.out g rfl).2
      have HBT := Lib.hid hbt; clear hbt
      generalize hr0 : (invTo P A k).1 = R at *
      generalize ht0 : (invTo P A k).2 = T at *
      have Hr0 := Lib.hid hr0; have Ht0 := Lib.hid ht0; clear hr0 ht0
      have hx0 : 0 ≤ gt R k := hx.1
      have hx1 : gt R k < gt P.orders k := hx.2
      have hok1 : gt P.orders k ≤ 7 := hok.2
      have HLEN := Lib.hid hlen; clear hlen hx hok
      go_wp2
      go_loopg [21] (left_ (gt P.orders k) (gt R k)) (fun gk u wr => ∃ s : Nat, gk + s = left_ (gt P.orders k) (gt R k) ∧ Ext w wr ∧ Own w.heap.size wr (.slice (some ⟨g, 0, none⟩) A.length capr) (iter s (fun e => tg P e k) R) ∧ Own w1.heap.size wr t (iter s (fun e => tg P e k) T))
      case atStart => exact ⟨0, by omega, hg, hO, hT⟩
      case round =>
        clear hg hO hT
        obtain ⟨s, hs, hg, hO, hT⟩ := hrel
        have hRs : Vec P.orders (iter s (fun e => tg P e k) R) ∧ Vec P.orders (iter s (fun e => tg P e k) T) :=
          ⟨iter_inv (Vec P.orders) _ (fun y hy => tg_vec hP y k hy (by omega)) _ _ HV1.out, iter_inv (Vec P.orders) _ (fun y hy => tg_vec hP y k hy (by omega)) _ _ HV2.out⟩
        have HRs := Lib.hid hRs
        have hc := hO.cell k (by rw [hRs.1.1]; omega)
        clear hRs
        by_cases hm : s = left_ (gt P.orders k) (gt R k)
        · have hz : gt (iter s (fun e => tg P e k) R) k = 0 := by
            by_cases h0 : gt R k = 0
            · have : s = 0 := by rw [hm]; unfold left_; rw [if_pos h0]
              rw [this]; exact h0
            · rw [(iter_tg hP R k (by omega) HV1.out h0 s (by omega)).2, if_pos hm]
          rw [hz] at hc
          have hO2 : Own w.heap.size wr (.slice (some ⟨g, 0, none⟩) A.length capr) (invTo P A (k + 1)).1 := by rw [HSC.out, ← hm]; exact hO
          have hT2 : Own w1.heap.size wr t (invTo P A (k + 1)).2 := by rw [HSC.out, ← hm]; exact hT
          have HO2 := Lib.hid hO2; have HT2 := Lib.hid hT2; clear hO2 hT2 hO hT hm hz
          go_wp2
          go_roundw
          case rel => exact ⟨k + 1, by go_num, by omega, hg, HO2.out, HT2.out⟩
          case measure => simp [intOf]; omega
        · have hz : gt (iter s (fun e => tg P e k) R) k ≠ 0 := by
            by_cases h0 : gt R k = 0
            · exfalso; apply hm
              have : left_ (gt P.orders k) (gt R k) = 0 := by unfold left_; rw [if_pos h0]
              omega
            · rw [(iter_tg hP R k (by omega) HV1.out h0 s (by omega)).2, if_neg hm]; omega
          have hzb : (gt (iter s (fun e => tg P e k) R) k != 0) = true := by simpa using hz
          have HM := Lib.hid hm; clear hm hz
          go_wp2_with fail
          refine Calls.mono (timesGenerator_ok P hP w.heap.size wr p _ _ k (hp.mono (off_of hO (Nat.le_refl _) hg)) hO HRs.out.1 (by omega)) ?_
          rintro e3 w3 ⟨v3, rfl, hg3, rfl, hO3⟩
          have hgx := mut_ext hg hO (Nat.le_refl _) hg3
          have hT3 : Own w1.heap.size w3 t (iter s (fun e => tg P e k) T) := hT.ext hg3 (by
            cases hb : t.ownBlock with
            | none => exact .inl rfl
            | some q => exact .inr (fun h => by have h : some q = some g := h; cases h; have := (hT.lt _ hb).1; omega))
          go_wp2_with fail
          refine Calls.mono (timesGenerator_ok P hP w1.heap.size w3 p t _ k (hp.mono (off_of hT3 hw1 hgx)) hT3 HRs.out.2 (by omega)) ?_
          rintro e4 w4 ⟨v4, rfl, hg4, rfl, hT4⟩
          have hgy := mut_ext hgx hT3 hw1 hg4
          have hO4 := hO3.ext hg4 (by
            cases hb : t.ownBlock with
            | none => exact .inr (by simp [Value.ownBlock])
            | some q => exact .inr (fun h => by have h : some g = some q := h; cases h; have := (hT3.lt _ hb).1; omega))
          clear hc hzb hO hT hO3 hT3
          go_wp2
          go_roundg (gk - 1)
          case measure => have := HM.out; omega
          case rel => exact ⟨s + 1, by have := HM.out; omega, hgy, hO4, hT4⟩
    · have hke : k = A.length := by omega
      subst hke
      go_wp2
      go_ret
      exact ⟨_, rfl, hg, hT.weak hw1⟩

end Go.Proofs.YtoakmefajbbggaaGreat
