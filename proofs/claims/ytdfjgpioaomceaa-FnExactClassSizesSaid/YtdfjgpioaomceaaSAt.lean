/-
  The reference's multiplication: spec.l08At computes rAt.
-/
import Derived.Test.YtdfjgpioaomceaaSMul
namespace Go.Proofs.Ytdfjgpioaomceaa
open Go.RowKit

set_option maxHeartbeats 2000000 in
theorem l08At_zero (P : Pr) (hP : Valid P) : AtOk P 0 := by
  intro w pv a b i A B Sp Sa Sb hi hp ha hb hA hB
  obtain ⟨vo, vp, vc, rfl, h3⟩ := hp
  have hn6 := hP.n6
  have hBx := PresP.box h3 30
  obtain ⟨ao, capo, hco, hoi⟩ := hBx.ordAt
  have hi2 : (i : Int) = P.orders.length := by omega
  have hi3 : ((P.orders.length : Int) ≤ (i : Int)) := by omega
  have HI := Lib.hid hi2; clear hi2
  go_enter Try.func69, Try.ntmps69
  go_wp2_with (at_make; refine wp_make_ints rfl _ _ rfl (w.heap.size + 1) P.orders.length (w.heap.size + 1) (by simp) _ rfl rfl rfl (by omega) (by simp) ?_; intro w1 ho1 hg1 _)
  go_ret
  exact ⟨_, rfl, grown_trans (World.grownBy_alloc _ _ _) hg1, ho1.weak (by omega)⟩

set_option maxHeartbeats 4000000 in
theorem l08At_succ (P : Pr) (hP : Valid P) (f : Nat) (ih : AtOk P f) : AtOk P (f + 1) := by
  intro w pv a b i A B Sp Sa Sb hi hp ha hb hA hB
  obtain ⟨vo, vp, vc, rfl, h3⟩ := hp
  have hn6 := hP.n6
  have hBx := PresP.box h3 30
  have ha0 := ha.ext (World.grownBy_alloc w (.cells #[vo, vp, vc] 30) none)
  have hb0 := hb.ext (World.grownBy_alloc w (.cells #[vo, vp, vc] 30) none)
  have hlA : A.length ≤ P.orders.length ∧ P.orders.length ≤ A.length := by rw [hA.1]; omega
  have hlB : B.length ≤ P.orders.length ∧ P.orders.length ≤ B.length := by rw [hB.1]; omega
  have hg0 : Ext w (w.alloc (.cells #[vo, vp, vc] 30)) := World.grownBy_alloc _ _ _
  have hs0 : (w.alloc (.cells #[vo, vp, vc] 30)).heap.size = w.heap.size + 1 := by simp
  have HS := Lib.hid hs0; clear hs0
  clear ha hb
  go_enter Try.func69, Try.ntmps69
  obtain ⟨ao, capo, hco, hoi⟩ := hBx.ordAt
  go_wp2_with fail
  clear hco hoi
  generalize hw0 : w.alloc (.cells #[vo, vp, vc] 30) = w0 at *
  clear hw0
  refine Calls.mono (l01Own_ok w0 a A Sa ha0 (by omega)) ?_
  rintro e1 w1 ⟨L, rfl, hg1, hL⟩
  go_wp2_with fail
  refine Calls.mono (l01Own_ok w1 b B Sb (hb0.ext hg1) (by omega)) ?_
  rintro e2 w2 ⟨R, rfl, hg2, hR⟩
  have hL2 := hL.ext0 hg2
  obtain ⟨gl, capl, rfl, hbl, hsl⟩ := hL.form (by omega)
  obtain ⟨gr, capr, rfl, hbr, hsr⟩ := hR.form (by omega)
  have hne : gl ≠ gr := by omega
  have c1 := hL2.cell i (by omega)
  have f1 := hL2.frozen i
  obtain ⟨hL3, hg3⟩ := hL2.store i 0
  have hR3 := hR.ext hg3 (.inr (by intro h; cases h; exact hne rfl))
  have c2 := hR3.cell i (by omega)
  have f2 := hR3.frozen i
  obtain ⟨hR4, hg4⟩ := hR3.store i 0
  have hL4 := hL3.ext hg4 (.inr (by intro h; cases h; exact hne rfl))
  have hg4w : Ext w0 ((w2.setCell ⟨gl, i, none⟩ (.int .i64 0)).setCell ⟨gr, i, none⟩ (.int .i64 0)) :=
    grown_own (grown_own (grown_trans hg1 hg2) hg3 (fun j hj hlt => by cases hj; omega)) hg4 (fun j hj hlt => by cases hj; have := hg1.size; omega)
  have hA1 := hA.set i 0 ⟨by omega, fun _ => by have := hP.ord7 i (by omega); omega⟩
  have hB1 := hB.set i 0 ⟨by omega, fun _ => by have := hP.ord7 i (by omega); omega⟩
  have hs1 := hg1.size
  have hs2 := hg2.size
  have hAi := hA.2 i (by omega)
  have hBi := hB.2 i (by omega)
  have hoi := hP.ord7 i (by omega)
  have hAi0 : 0 ≤ gt A i := hAi.1
  have hBi0 : 0 ≤ gt B i := hBi.1
  have hoi0 : 2 ≤ gt P.orders i := hoi.1
  have hAi1 : gt A i < gt P.orders i := hAi.2
  have hBi1 : gt B i < gt P.orders i := hBi.2
  have hoi1 : gt P.orders i ≤ 7 := hoi.2
  clear hAi hBi hoi
  go_wp2
  clear c1 f1 c2 f2 hL2 hL3 hR3 hL hR
  generalize hw4 : (w2.setCell ⟨gl, i, none⟩ (.int .i64 0)).setCell ⟨gr, i, none⟩ (.int .i64 0) = w4 at *
  clear hw4 hg3 hg4
  obtain ⟨ab, capb, rfl, _, _⟩ := hb0.shape
  obtain ⟨aa, capa, rfl, _, _⟩ := ha0.shape
  go_loopw [10, 12] (fun v mm wr => ∃ m : Nat, mm = .int .i64 m ∧ m ≤ (gt B i).toNat ∧ Ext w4 wr ∧
      Own (w.heap.size + 1) wr v (iter m (fun l => rImage P f i l) (A.set i 0))) (fun _ mm _ => (gt B i).toNat - (intOf mm).toNat)
  case atStart => exact ⟨0, rfl, by omega, Ext.refl _, hL4.weak (by have := HS.out; omega)⟩
  case round =>
    obtain ⟨m, rfl, hm, hg, hO⟩ := hrel
    have hgr : Ext w0 wr := grown_trans hg4w hg
    obtain ⟨bb, ob, rfl, _, _, hcb⟩ := Ints.at (hb0.ext hgr) i (by omega)
    have hvm : Vec P.orders (iter m (fun l => rImage P f i l) (A.set i 0)) := iter_inv (Vec P.orders) _ (fun y hy => rImgTo_vec hP f i hi (rAt_vec hP f) _ _ (zeros_vec hP) f (Nat.le_refl _)) _ _ hA1
    have HV := Lib.hid hvm
    have hOi := hO.ints (by rw [hvm.1]; omega)
    clear hvm
    obtain ⟨vo9, vp9, vc9, _, _, hc0, hc1, hc2, h39⟩ := (hBx.ext hgr).at
    by_cases hlt2 : (m : Int) < gt B i
    · go_wp2_with fail
      refine Calls.mono (l08Image_of P hP f ih wr _ _ i _ Any Any hi ⟨_, _, _, rfl, h39⟩ hOi HV.out) ?_
      rintro e5 w5 ⟨v5, rfl, hg5, hO5⟩
      go_wp2
      go_roundw
      case rel => exact ⟨m + 1, by go_num, by omega, grown_trans hg hg5, hO5.weak (by have := hgr.size; have := HS.out; omega)⟩
      case measure => simp [intOf]; omega
    · have hme : m = (gt B i).toNat := by omega
      subst hme
      have hR5 := hR4.ext0 hg
      generalize hleft : iter (gt B i).toNat (fun l => rImage P f i l) (A.set i 0) = left at *
      have HL := Lib.hid hleft; clear hleft
      go_wp2_with fail
      refine Calls.mono (ih wr _ _ _ (i + 1) left (B.set i 0) Any Any Any (by omega) ⟨_, _, _, rfl, h39⟩ hOi (hR5.ints (by simp; omega)) HV.out hB1) ?_
      rintro e6 w6 ⟨rest, rfl, hg6, hr6⟩
      have hgr6 : Ext w0 w6 := grown_trans hgr hg6
      obtain ⟨ba, oa, rfl, _, _, hca⟩ := Ints.at (ha0.ext hgr6) i (by omega)
      have hcb6 : w6.cell? ⟨bb, ob + i, none⟩ = some (.int .i64 (gt B i)) := hg6.cell hcb (by simp)
      have hvr := rAt_vec hP f (i + 1) _ _ (by omega) HV.out hB1
      have HVr := Lib.hid hvr; clear hvr
      clear hc0 hc1 hc2 hcb hOi hO h39 hR5 hR4 hL4 hlt2 hm
      generalize hrest : rAt P f (i + 1) left (B.set i 0) = rst at *
      have HRst := Lib.hid hrest; clear hrest
      have hil : i < A.length := by omega
      have hil2 : i < B.length := by omega
      have s1 : IntKind.i64.wrap (gt A i + gt B i) = gt A i + gt B i := IntWalk.i64_in _ (by omega)
      go_wp2
      go_quiet (fail)
      clear s1 hca hcb6
      have hfin : rAt P (f + 1) i A B = if gt P.orders i ≤ gt A i + gt B i then (rAt P f (i + 1) (gt P.powers i) rst).set i (gt A i + gt B i - gt P.orders i) else rst.set i (gt A i + gt B i) := by
        rw [← HRst.out, ← HL.out]; rfl
      have HF := Lib.hid hfin; clear hfin
      rename_i nq _
      have hgr7 : Ext w0 (w6.drewN nq) := grown_trans hgr6 (grown_drewN _ _ _)
      have hr7 : Own wr.heap.size (w6.drewN nq) rest rst := hr6
      have hri := hr7.ints (by rw [HVr.out.1]; omega)
      have hbp := hBx.ext hgr7
      obtain ⟨ao7, capo7, hco, hoi⟩ := hbp.ordAt
      obtain ⟨bo, oo, rfl, _, _, hcoi⟩ := Ints.at hoi i (by omega)
      obtain ⟨ap, capp, hcp, hpr⟩ := hbp.powAt
      obtain ⟨bp, op, ap2, capp2, rfl, _, _, hcpi, hpi⟩ := Rows2.at hpr i (by rw [hP.pl]; omega)
      have hjp : i < P.powers.length := by rw [hP.pl]; omega
      have hwsz : wr.heap.size ≤ (w6.drewN nq).heap.size := hg6.size
      clear hr6 hgr6 hbp hoi hpr
      generalize w6.drewN nq = w7 at *
      by_cases hc : gt P.orders i ≤ gt A i + gt B i
      case' pos =>
        have HF2 := Lib.hid (HF.out.trans (if_pos hc)); clear HF
        obtain ⟨vo9, vp9, vc9, _, _, hc0, hc1, hc2, h39⟩ := (hBx.ext hgr7).at
        have s3 : IntKind.i64.wrap ((i : Int) + 1) = (i : Int) + 1 := IntWalk.i64_in _ (by omega)
        have s4 : IntKind.i64.wrap (gt A i + gt B i - gt P.orders i) = gt A i + gt B i - gt P.orders i := IntWalk.i64_in _ (by omega)
        have e1 : ∀ w', Ext w7 w' → w'.cell? ⟨w.heap.size, 0, none⟩ = some vo9 := fun w' h => h.cell hc0 (by simp)
        have e2 : ∀ w', Ext w7 w' → w'.cell? ⟨w.heap.size, 1, none⟩ = some (.slice (some ⟨bp, op, none⟩) P.powers.length capp) := fun w' h => h.cell (by simpa using hcp) (by simp)
        have e3 : ∀ w', Ext w7 w' → w'.cell? ⟨w.heap.size, 2, none⟩ = some vc9 := fun w' h => h.cell (by simpa using hc2) (by simp)
        have e4 : ∀ w', Ext w7 w' → w'.cell? ⟨bp, op + i, none⟩ = some (.slice ap2 (gt P.powers i).length capp2) := fun w' h => h.cell hcpi (by simp)
        have evp : vp9 = .slice (some ⟨bp, op, none⟩) P.powers.length capp := by
          have := hc1.symm.trans hcp; simpa using this
        subst evp
        have b3 : (i : Int) < P.powers.length := by omega
        have hpv := (hP.pv i (by omega)).1
        have HPV := Lib.hid hpv; clear hpv
        clear hc2 hc1 hcp
        go_wp2
        clear hco hcoi hcpi
        go_region_held3 (fun w' => Ext w7 w') (first | exact grown_drew _ _ | exact hg8)
            (first | (go_at_call 69; refine Calls.mono (Calls.rel (w0 := w7) (by assumption) (ih _ _ _ _ (i + 1) (gt P.powers i) rst Any Any Any (by omega) ⟨_, _, _, rfl, Pres3.ext h39 (by assumption)⟩ (Ints.ext hpi (by assumption)) (Ints.ext hri (by assumption)) HPV.out HVr.out)) ?_; rintro e8 w8 ⟨v8, rfl, hg8, hsz8, hO8⟩))
        have hvp := rAt_vec hP f (i + 1) _ _ (by omega) HPV.out HVr.out
        have hlp : (rAt P f (i + 1) (gt P.powers i) rst).length = P.orders.length := hvp.1
        clear e1 e2 e3 e4 s3 s4 hvp
        go_wp2_with fail
        refine Calls.mono (l01Own_ok w8 v8 (rAt P f (i + 1) (gt P.powers i) rst) Any (hO8.ints (by omega)) (by omega)) ?_
        have hw8 : w0.heap.size ≤ w8.heap.size := by have := hgr7.size; have := hg8.size; omega
        have hgr8 : Ext w0 w8 := grown_trans hgr7 hg8
        generalize rAt P f (i + 1) (gt P.powers i) rst = fin at *
        generalize hcc : gt A i + gt B i - gt P.orders i = cc at *
      case' neg =>
        have HF2 := Lib.hid (HF.out.trans (if_neg hc)); clear HF
        have hlp : rst.length = P.orders.length := HVr.out.1
        go_wp2_with fail
        refine Calls.mono (l01Own_ok w7 rest rst Any hri (by omega)) ?_
        have hgr8 : Ext w0 w7 := hgr7
        generalize hcc : gt A i + gt B i = cc at *
        clear hri hr7 HVr HRst
        generalize rst = fin at *
      all_goals
        have HCC := Lib.hid hcc; clear hcc
        have hlp2 : fin.length ≤ P.orders.length ∧ P.orders.length ≤ fin.length := by omega
        clear hlp
        rintro e9 w9 ⟨v9, rfl, hg9, hO9⟩
        obtain ⟨g9, cap9, rfl, hb9, hs9⟩ := hO9.form (by omega)
        have c9 := hO9.cell i (by omega)
        have f9 := hO9.frozen i
        obtain ⟨hO10, hg10⟩ := hO9.store i cc
        have hfl : i < fin.length := by omega
        go_wp2
        go_ret
        refine ⟨_, rfl, ?_, ?_⟩
        · exact grown_trans hg0 (grown_own (grown_trans hgr8 hg9) hg10 (fun j hj hlt => by cases hj; have := hgr8.size; omega))
        · rw [HF2.out]; exact hO10.weak (by have := hgr8.size; have := HS.out; omega)

theorem l08At_ok (P : Pr) (hP : Valid P) (f : Nat) : AtOk P f := by
  induction f with
  | zero => exact l08At_zero P hP
  | succ f ih => exact l08At_succ P hP f ih

/-- the reference's product -/
def rMul (P : Pr) (A B : List Int) : List Int := rAt P P.orders.length 0 A B

set_option maxHeartbeats 1000000 in
theorem l08Mul_ok (P : Pr) (hP : Valid P) (w : World) (pv a b : Value) (A B : List Int) (Sp Sa Sb : Nat → Prop) (hp : PresV Sp w pv P) (ha : Ints Sa w a A) (hb : Ints Sb w b B) (hA : Vec P.orders A) (hB : Vec P.orders B) :
    Calls Try.prog 56 #[pv, a, b] w (Ret w fun w' v => Own w.heap.size w' v (rMul P A B)) := by
  obtain ⟨vo, vp, vc, rfl, h3⟩ := hp
  go_enter Try.func56, Try.ntmps56
  obtain ⟨vo9, vp9, vc9, _, _, hc0, hc1, hc2, h39⟩ := (PresP.box h3 30).at
  go_wp2_with fail
  refine Calls.mono (l08At_ok P hP P.orders.length _ _ _ _ 0 A B Any Sa Sb (by omega) ⟨_, _, _, rfl, h39⟩ (ha.ext (World.grownBy_alloc _ _ _)) (hb.ext (World.grownBy_alloc _ _ _)) hA hB) ?_
  rintro e1 w1 ⟨v1, rfl, hg1, hO1⟩
  go_wp2
  go_ret
  exact ⟨_, rfl, grown_trans (World.grownBy_alloc _ _ _) hg1, hO1.weak (by simp)⟩

end Go.Proofs.Ytdfjgpioaomceaa
