/-
  impl.timesGenerator and impl.timesVector compute tgen and tvec in place.
  Valid presentations: impl.tailVector, impl.IsPresentation.
  spec.IsPresentation; orders of groups.
  Plain: what tgen does to single entries.
  The program's operations on elements: impl.multiply, invert, power, conjugate, imageBy.
  The reference's multiplication: spec.l08Image, spec.l08At.
  impl.invert, impl.conjugate, impl.imageBy.
  impl.conjugate, impl.imageBy, impl.numberOf, impl.elementAt.
-/
import Derived.Test.YtmjkoejegfjbbaaGreatC1
import Derived.Deep.RegionHeld3
import Derived.StillTailTactics
import Derived.Deep.LoopGhost
namespace Go.Proofs.YtmjkoejegfjbbaaGreat
open Go.RowKit
def TgenOk (P : Pr) (fuel : Nat) : Prop :=
 ∀ (base : Nat) (w : World) (p e : Value) (E : List Int) (j : Nat), PresP (Off e.ownBlock) w p P → Own base w e E → Vec P.orders E → j < P.orders.length → P.orders.length ≤ fuel + j →
  Calls Tryz.prog 158 #[p, e, .int .i64 j] w (Mut w e.ownBlock fun w' v => v = .tuple #[] ∧ Own base w' e (tgen P fuel E j))
set_option maxHeartbeats 1000000 in
theorem timesVector_of (P : Pr) (hP : Valid P) (fuel : Nat) (ih : TgenOk P fuel) (base : Nat) (w : World) (p e f : Value) (E F : List Int) (hp : PresP (Off e.ownBlock) w p P) (hE : Own base w e E)
  (hv : Vec P.orders E) (hf : Ints (Off e.ownBlock) w f F) (hF : Vec P.orders F) (hz : ∀ j, j < P.orders.length → gt F j ≠ 0 → P.orders.length ≤ fuel + j) :
  Calls Tryz.prog 282 #[p, e, f] w (Mut w e.ownBlock fun w' v => v = .tuple #[] ∧ Own base w' e (tvec (tgen P fuel) E F)) := by
 have hlF : F.length ≤ P.orders.length := by rw [hF.1]; omega
 obtain ⟨a, cap, rfl, hl, hcf⟩ := hf
 go_enter Tryz.func282, Tryz.ntmps282
 go_wp2
 go_loopw [10] (fun i wr => ∃ k : Nat, i = .int .i64 k ∧ k ≤ F.length ∧ w.grownBy wr e.ownBlock ∧ Own base wr e (tvecTo (tgen P fuel) F E k)) (fun i _ => F.length - (intOf i).toNat)
 case atStart => exact ⟨0, rfl, by omega, grown_refl _ _, hE⟩
 case round =>
  obtain ⟨k, rfl, hk, hg, hO⟩ := hrel
  by_cases hlt : k < F.length
  ·obtain ⟨b, off, u, rfl, hS, hb, hc, hu⟩ := hcf k hlt
   have hc' : wr.cell? ⟨b, off + k, none⟩ = some u := hg.cell hc (fun h => hS h.symm)
   have hu : u = .int .i64 (gt F k) := hu
   subst hu
   have hx := hF.2 k (by omega)
   have hx0 : 0 ≤ gt F k := hx.1
   have hx7 := hP.ord7 k (by omega)
   have hx1 : gt F k ≤ 7 := by omega
   have hvk : Vec P.orders (tvecTo (tgen P fuel) F E k) := tvecTo_vec (fun e j he hj h0 => tgen_vec hP fuel e j he hj (hz j hj h0)) hv k (by omega)
   clear hx hx7 hcf hc
   go_wp2
   go_loopw [16] (fun i wr => ∃ m : Nat, i = .int .i64 m ∧ m ≤ (gt F k).toNat ∧ w.grownBy wr e.ownBlock ∧ Own base wr e (iter m (fun e => tgen P fuel e k) (tvecTo (tgen P fuel) F E k))) (fun i _ => (gt F k).toNat - (intOf i).toNat)
   case atStart => exact ⟨0, rfl, by omega, hg, hO⟩
   case round =>
    clear hg hO hc'
    obtain ⟨m, rfl, hm, hg, hO⟩ := hrel
    by_cases hlt2 : (m : Int) < gt F k
    ·have hkf : P.orders.length ≤ fuel + k := hz k (by omega) (by omega)
     have hvm : Vec P.orders (iter m (fun e => tgen P fuel e k) (tvecTo (tgen P fuel) F E k)) := iter_inv (Vec P.orders) _ (fun x hx => tgen_vec hP fuel x k hx (by omega) hkf) _ _ hvk
     go_wp2_with (go_at_call 158; go_must (refine (ih base _ p e _ k (hp.mono (frame_of hg fun k h _ => ⟨h, h⟩)) hO hvm (by omega) hkf).mono ?_); rintro e1 w1 ⟨v1, rfl, hg1, rfl, hO1⟩)
     go_roundw
     case rel => exact ⟨m + 1, by go_num, by omega, grown_trans hg hg1, hO1⟩
     case measure => simp [intOf]; omega
    ·have hme : m = (gt F k).toNat := by omega
     have HO : Hid (Own base wr e (tvecTo (tgen P fuel) F E (k + 1))) := by rw [hme] at hO; exact hO
     clear hO hme
     go_wp2
     go_roundw
     case rel => exact ⟨k + 1, by go_num, by omega, hg, HO.out⟩
     case measure => simp [intOf]; omega
  ·have hke : k = F.length := by omega
   have HO : Hid (Own base wr e (tvec (tgen P fuel) E F)) := by rw [hke] at hO; exact hO
   clear hO hke
   go_wp2
   go_end0
   exact ⟨_, rfl, hg, rfl, HO.out⟩
set_option maxHeartbeats 1000000 in
theorem timesGenerator_of (P : Pr) (hP : Valid P) (fuel : Nat) (ih : TgenOk P fuel) : TgenOk P (fuel + 1) := by
 intro base w p e E j hp hE hv hj hf
 have hlE : E.length ≤ P.orders.length ∧ P.orders.length ≤ E.length := by rw [hv.1]; omega
 have hn6 := hP.n6
 obtain ⟨g, cap, rfl, hgb, hgs⟩ := hE.form (by omega)
 obtain ⟨pb, po, rfl⟩ := hp.shape
 have hs := fun w => run_tail w (some ⟨g, 0, none⟩) E.length cap ((j : Int) + 1) (by omega) (by omega)
 go_enter Tryz.func158, Tryz.ntmps158
 have htl : Ints Any w (subSl (.slice (some ⟨g, 0, none⟩) E.length cap) (j + 1) E.length) (E.drop (j + 1)) := by
  have := subSl_ints (ints_of_own hE (by omega) (S := Any) (fun _ _ => trivial)) (j + 1) E.length (by omega) (by omega)
  rwa [List.take_length] at this
 have hxj := hv.2 j hj
 have hoj := hP.ord7 j hj
 go_wp2_with fail
 refine (clone_ok w _ (E.drop (j + 1)) Any htl (by simp; omega)).mono ?_
 rintro e1 w1 ⟨r, rfl, hg1, hR⟩
 clear htl hs
 have hRl : (E.drop (j + 1)).length + j + 1 = E.length := by simp; omega
 have hRv : ∀ k, k < (E.drop (j + 1)).length → 0 ≤ gt (E.drop (j + 1)) k ∧ gt (E.drop (j + 1)) k ≤ 7 := by
  intro k hk
  have h1 := hv.2 (j + 1 + k) (by omega)
  have h2 := hP.ord7 (j + 1 + k) (by omega)
  have h3 : gt (E.drop (j + 1)) k = gt E (j + 1 + k) := by simp only [gt, List.getD_eq_getElem?_getD, List.getElem?_drop]
  rw [h3]; omega
 have hRi : Ints (From w.heap.size) w1 r (E.drop (j + 1)) := ints_of_own hR (by omega) (fun k hk => (hR.lt k hk).1)
 generalize hRe : E.drop (j + 1) = R at *
 obtain ⟨ar, capr, rfl, _, _⟩ := hRi.shape
 have hRl1 : R.length + j + 1 ≤ E.length ∧ E.length ≤ R.length + j + 1 := by omega
 have HR := Lib.hid hRe; clear hRe hRl
 have HRv := Lib.hid hRv; clear hRv
 go_wp2
 go_loopw [17] (fun i wr => ∃ k : Nat, i = .int .i64 k ∧ k ≤ R.length ∧ w1.grownBy wr (some g) ∧ Own base wr (.slice (some ⟨g, 0, none⟩) E.length cap) (zeroed E j k)) (fun i _ => R.length - (intOf i).toNat)
 case atStart => exact ⟨0, rfl, by omega, grown_refl _ _, by rw [zeroed_zero]; exact hE.ext hg1 (.inr (by simp [Value.ownBlock]))⟩
 case round =>
  obtain ⟨k, rfl, hk, hg, hO⟩ := hrel
  by_cases hlt : k < R.length
  ·have hlz := length_zeroed E j k (by omega)
   have hc := hO.cell (j + 1 + k) (by omega)
   have hfz := hO.frozen (j + 1 + k)
   have HL := Lib.hid hlz; clear hlz
   go_wp2
   go_roundw
   case rel =>
    obtain ⟨h1, h2⟩ := hO.store (j + 1 + k) 0
    exact ⟨k + 1, by go_num, by omega, grown_trans hg h2, by rw [zeroed_succ _ _ _ (by omega)]; exact h1⟩
   case measure => simp [intOf]; omega
  ·have hke : k = R.length := by omega
   subst hke
   have hlz := length_zeroed E j R.length (by omega)
   have hzj : gt (zeroed E j R.length) j = gt E j := by rw [gt_zeroed _ _ _ _ (by omega), if_neg (by omega)]
   have hc := hO.cell j (by omega)
   rw [hzj] at hc
   have hfz := hO.frozen j
   have HL := Lib.hid hlz; clear hlz
   have hs1 := hO.store j (gt E j + 1)
   clear hzj
   go_wp2
   generalize hW : wr.setCell ⟨g, j, none⟩ (.int .i64 (gt E j + 1)) = W2 at hs1 ⊢
   obtain ⟨hO2, hg2⟩ := hs1
   clear hW hc hfz
   have hgw : w.grownBy W2 (some g) := grown_trans (grown_trans (grown_of_ext _ hg1) hg) hg2
   obtain ⟨ao, capo, hc0, hqo⟩ := (hp.mono (frame_of hgw fun k h _ => ⟨h, h⟩)).ordAt
   obtain ⟨bo, oo, rfl, _, _, hco⟩ := Ints.at hqo j hj
   have hlz1 : ((zeroed E j R.length).set j (gt E j + 1)).length = E.length := by rw [List.length_set]; exact HL.out
   have hce := hO2.cell j (by omega)
   rw [gt_set_eq _ _ _ (by have := HL.out; omega)] at hce
   have hfe := hO2.frozen j
   have hR2 : Ints (Off (some g)) W2 (.slice ar R.length capr) R := (hRi.sub (S' := Off (some g)) (fun k hk _ => by unfold Off; intro he; cases he; have : w.heap.size ≤ g := hk; omega)).mono (frame_of (grown_trans hg hg2) fun k h _ => ⟨h, h⟩)
   have hv1 : Vec P.orders (zeroed E j R.length) := hv.zeroed j R.length (by omega)
   have HV1 := Lib.hid hv1; clear hv1
   have HL1 := Lib.hid hlz1; clear hlz1
   clear hg hg2 hO hR hRi hg1 hk hlt hqo
   have hcl := hP.cv j hj
   have hclen : R.length ≤ (gt P.conj j).length := by rw [hcl.1]; omega
   have hjc : j < P.conj.length := by rw [hP.cl]; exact hj
   have hcz : ∀ k, k < R.length → Vec P.orders (gt (gt P.conj j) k) ∧ (∀ i, i < P.orders.length → gt (gt (gt P.conj j) k) i ≠ 0 → P.orders.length ≤ fuel + i) := by
    intro k hk
    obtain ⟨h1, h2⟩ := hcl.2 k (by omega)
    refine ⟨h1, fun i hi h0 => ?_⟩
    have : ¬ i ≤ j := fun h => h0 (h2 i h)
    omega
   have HCZ := Lib.hid hcz; clear hcz hcl
   have hfin : ∀ E2, E2 = (if gt E j + 1 = gt P.orders j then tvec (tgen P fuel) (((zeroed E j R.length).set j (gt E j + 1)).set j 0) (gt P.powers j) else (zeroed E j R.length).set j (gt E j + 1)) →
     tgen P (fuel + 1) E j = tconjTo (tgen P fuel) (gt P.conj j) R E2 R.length := by
    intro E2 h2
    have hr : R = E.drop (j + 1) := HR.out.symm
    rw [h2, hr]; rfl
   have HF := Lib.hid hfin; clear hfin
   by_cases hcar : gt E j + 1 = gt P.orders j
   case' pos =>
    have hb : (gt E j + 1 == gt P.orders j) = true := by simp [hcar]
    obtain ⟨E2, hE2⟩ : ∃ E2, E2 = tvec (tgen P fuel) (((zeroed E j R.length).set j (gt E j + 1)).set j 0) (gt P.powers j) := ⟨_, rfl⟩
    have HF2 := Lib.hid (HF.out E2 (by rw [if_pos hcar]; exact hE2)); clear HF
    have hv4 : Vec P.orders (((zeroed E j R.length).set j (gt E j + 1)).set j 0) := by rw [List.set_set]; exact HV1.out.set j 0 ⟨by omega, fun _ => by omega⟩
    have hpv := hP.pv j hj
    have hzp : ∀ i, i < P.orders.length → gt (gt P.powers j) i ≠ 0 → P.orders.length ≤ fuel + i := by
     intro i hi h0
     have : ¬ i ≤ j := fun h => h0 (hpv.2 i h)
     omega
    have hv5 : Vec P.orders E2 := by
     rw [hE2]
     exact tvec_vec hpv.1 (fun e i he hi h0 => tgen_vec hP fuel e i he hi (hzp i hi h0)) hv4
    have HE2 := Lib.hid hE2; clear hE2
    have HC := Lib.hid hcar; clear hcar
    have HZP := Lib.hid hzp; clear hzp
    have HPV := Lib.hid hpv.1; clear hpv
    go_quiet (fail)
    rename_i nq _
    have hO3 : Own base (W2.drewN nq) (.slice (some ⟨g, 0, none⟩) E.length cap) ((zeroed E j R.length).set j (gt E j + 1)) := hO2
    have hgw3 : w.grownBy (W2.drewN nq) (some g) := grown_trans hgw (grown_drewN _ _ _)
    have hR3 : Ints (Off (some g)) (W2.drewN nq) (.slice ar R.length capr) R := hR2.mono (frame_of (grown_drewN _ _ (some g)) fun k h _ => ⟨h, h⟩)
    have hce3 : (W2.drewN nq).cell? ⟨g, j, none⟩ = some (.int .i64 (gt E j + 1)) := hce
    have hfe3 : (W2.drewN nq).frozen? ⟨g, j, none⟩ = false := hfe
    clear hco hce hfe hc0 hO2 hR2 hgw
    generalize W2.drewN nq = W3 at *
    obtain ⟨hO4, hg4⟩ := hO3.store j 0
    have hgw4 : w.grownBy (W3.setCell ⟨g, j, none⟩ (.int .i64 0)) (some g) := grown_trans hgw3 hg4
    have hp4 : PresP (Off (some g)) (W3.setCell ⟨g, j, none⟩ (.int .i64 0)) (.pointer (some ⟨pb, po, none⟩)) P := hp.mono (frame_of hgw4 fun k h _ => ⟨h, h⟩)
    obtain ⟨ap, capp, hpc, hpr⟩ := hp4.powAt
    obtain ⟨bp, op, ar2, capr2, rfl, _, _, hprc, hpri⟩ := Rows2.at hpr j (by rw [hP.pl]; exact hj)
    have hjp : j < P.powers.length := by rw [hP.pl]; exact hj
    go_wp2_with fail
    refine Calls.mono (timesVector_of P hP fuel ih base _ _ _ _ _ (gt P.powers j) ?_ ?_ hv4 ?_ HPV.out HZP.out) ?_
    ·exact hp4
    ·exact hO4
    ·exact hpri
    rintro e5 W5 ⟨v5, rfl, hg5, rfl, hO5⟩
    rw [← HE2.out] at hO5
    have hgw5 : w.grownBy W5 (some g) := grown_trans hgw4 hg5
    have hR5 : Ints (Off (some g)) W5 (.slice ar R.length capr) R := hR3.mono (frame_of (grown_trans hg4 hg5) fun k h _ => ⟨h, h⟩)
    clear hce3 hfe3 hO3 hR3 hgw3 hp4 hpc hpr hprc hpri hO4 hg4 hgw4 hg5
    go_wp2
   case' neg =>
    have hb : (gt E j + 1 == gt P.orders j) = false := by simp [hcar]
    obtain ⟨E2, hE2⟩ : ∃ E2, E2 = (zeroed E j R.length).set j (gt E j + 1) := ⟨_, rfl⟩
    have HF2 := Lib.hid (HF.out E2 (by rw [if_neg hcar]; exact hE2)); clear HF
    have hv5 : Vec P.orders E2 := by rw [hE2]; exact HV1.out.set j _ ⟨by omega, fun _ => by omega⟩
    rw [← hE2] at hO2
    have HC := Lib.hid hcar; clear hcar hE2
    go_quiet (fail)
    rename_i nq _
    have hgw5 : w.grownBy (W2.drewN nq) (some g) := grown_trans hgw (grown_drewN _ _ _)
    have hO5 : Own base (W2.drewN nq) (.slice (some ⟨g, 0, none⟩) E.length cap) E2 := hO2
    have hR5 : Ints (Off (some g)) (W2.drewN nq) (.slice ar R.length capr) R := hR2.mono (frame_of (grown_drewN _ _ (some g)) fun k h _ => ⟨h, h⟩)
    go_wp2
    clear hco hce hfe hc0 hO2 hR2 hgw
    generalize W2.drewN nq = W5 at *
   all_goals
    go_loopw [60] (fun i wr => ∃ k : Nat, i = .int .i64 k ∧ k ≤ R.length ∧ W5.grownBy wr (some g) ∧ Own base wr (.slice (some ⟨g, 0, none⟩) E.length cap) (tconjTo (tgen P fuel) (gt P.conj j) R E2 k) ∧ Vec P.orders (tconjTo (tgen P fuel) (gt P.conj j) R E2 k)) (fun i _ => R.length - (intOf i).toNat)
    case atStart => exact ⟨0, rfl, by omega, grown_refl _ _, hO5, hv5⟩
    case round =>
     obtain ⟨k, rfl, hk, hg, hO, hvk⟩ := hrel
     by_cases hlt : k < R.length
     ·have HCk := Lib.hid (HCZ.out k hlt); clear HCZ
      have hRk := HRv.out k hlt
      have hx0 : 0 ≤ gt R k := hRk.1
      have hx7 : gt R k ≤ 7 := hRk.2
      obtain ⟨br, or, rfl, hbr, _, hcr0⟩ := Ints.at hR5 k hlt
      have hcr : wr.cell? ⟨br, or + k, none⟩ = some (.int .i64 (gt R k)) := hg.cell hcr0 (fun h => hbr h.symm)
      clear hcr0 hRk
      go_wp2
      go_loopw [66] (fun i wr => ∃ m : Nat, i = .int .i64 m ∧ m ≤ (gt R k).toNat ∧ W5.grownBy wr (some g) ∧ Own base wr (.slice (some ⟨g, 0, none⟩) E.length cap) (iter m (fun e => tvec (tgen P fuel) e (gt (gt P.conj j) k)) (tconjTo (tgen P fuel) (gt P.conj j) R E2 k)) ∧ Vec P.orders (iter m (fun e => tvec (tgen P fuel) e (gt (gt P.conj j) k)) (tconjTo (tgen P fuel) (gt P.conj j) R E2 k))) (fun i _ => (gt R k).toNat - (intOf i).toNat)
      case atStart => exact ⟨0, rfl, by omega, hg, hO, hvk⟩
      case round =>
       clear hg hO hcr hvk
       obtain ⟨m, rfl, hm, hg, hO, hvk⟩ := hrel
       by_cases hlt2 : (m : Int) < gt R k
       ·have hp6 : PresP (Off (some g)) wr (.pointer (some ⟨pb, po, none⟩)) P := hp.mono (frame_of (grown_trans hgw5 hg) fun k h _ => ⟨h, h⟩)
        obtain ⟨ac, capc, hcc, hcr⟩ := hp6.conjAt
        obtain ⟨bc, oc, ac2, capc2, rfl, _, _, hc6, hcr6⟩ := Rows3.at hcr j hjc
        obtain ⟨bd, od, ad2, capd2, rfl, _, _, hc7, hcr7⟩ := Rows2.at hcr6 k (by omega)
        clear hcr hcr6
        go_wp2_with fail
        refine Calls.mono (timesVector_of P hP fuel ih base wr _ _ _ _ (gt (gt P.conj j) k) hp6 hO hvk hcr7 HCk.out.1 HCk.out.2) ?_
        rintro e6 W6 ⟨v6, rfl, hg6, rfl, hO6⟩
        have hg7 : W5.grownBy W6 (some g) := grown_trans hg hg6
        have hv7 := tvec_vec HCk.out.1 (fun e i he hi h0 => tgen_vec hP fuel e i he hi (HCk.out.2 i hi h0)) hvk
        clear hc6 hc7 hcc hcr7 hp6 hO hg6 hg
        go_wp2
        go_roundw
        case rel => exact ⟨m + 1, by go_num, by omega, hg7, hO6, hv7⟩
        case measure => simp [intOf]; omega
       ·have hme : m = (gt R k).toNat := by omega
        subst hme
        go_wp2
        go_roundw
        case rel => exact ⟨k + 1, by go_num, by omega, hg, hO, hvk⟩
        case measure => simp [intOf]; omega
     ·have hke : k = R.length := by omega
      subst hke
      go_wp2
      go_end0
      exact ⟨_, rfl, grown_trans hgw5 hg, rfl, by rw [HF2.out]; exact hO⟩
end Go.Proofs.YtmjkoejegfjbbaaGreat
namespace Go.Proofs.YtmjkoejegfjbbaaGreat
open Go.RowKit
theorem run_head (w : World) (a : Option Addr) (n cap : Nat) (k : Int) (h0 : 0 ≤ k) (h1 : k ≤ cap) :
  (Instr.slice 36 (.slice a n cap) none (some (.int .i64 k)) none).run Tryz.prog w = .ok (.slice a k.toNat cap) w := by
 rw [run_slice_h w 36 a n cap (by kernel_rfl) .i64 k h0 h1]
 have : (sizeOf (Tryz.prog.elem 36)).run Tryz.prog w = .ok 1 w := by kernel_rfl
 rw [this]
 simp only [Result.andThen, sliced, Nat.sub_zero, Nat.zero_mul]
 have e : (a.map fun x => x.add 0) = a := by cases a <;> simp [Addr.add]
 split
 ·rfl
 ·rw [e]
theorem head_ints {S : Nat → Prop} {w : World} {a : Option Addr} {n cap : Nat} {xs : List Int} (h : Ints S w (.slice a n cap) xs) (k : Nat) (hk : k ≤ xs.length) : Ints S w (.slice a k cap) (xs.take k) := by
 obtain ⟨a', cap', hv, hl, hc⟩ := h
 cases hv
 have hlen : (xs.take k).length = k := by simp; omega
 refine ⟨a, cap, by rw [hlen], ⟨by omega, by omega, hl.2.2⟩, fun i hi => ?_⟩
 obtain ⟨b, off, u, h1, h2, h3, h4, h5⟩ := hc i (by omega)
 refine ⟨b, off, u, h1, h2, h3, h4, ?_⟩
 have : gt (xs.take k) i = gt xs i := by simp only [gt, List.getD_eq_getElem?_getD, List.getElem?_take]; rw [if_pos (by omega)]
 rw [this]; exact h5
def tailB (o : List Int) (i : Nat) (e : List Int) : Bool := expB o e && isZeroB (e.take (i + 1))
theorem expB_vec {o e : List Int} : expB o e = true ↔ Vec o e := by
 unfold expB Vec
 rw [Bool.and_eq_true, decide_eq_true_eq, allB_true]
 constructor
 ·rintro ⟨h1, h2⟩
  exact ⟨h1, fun i hi => by have := inB_true.1 (h2 i (by omega)); omega⟩
 ·rintro ⟨h1, h2⟩
  exact ⟨h1, fun i hi => by have := h2 i (by omega); exact inB_true.2 (by omega)⟩
theorem isZeroB_true {l : List Int} : isZeroB l = true ↔ ∀ i, i < l.length → gt l i = 0 := by
 unfold isZeroB; rw [allB_true]; simp
theorem gt_take {l : List Int} {k i : Nat} (h : i < k) : gt (l.take k) i = gt l i := by
 simp only [gt, List.getD_eq_getElem?_getD, List.getElem?_take]; rw [if_pos h]
theorem gt_big {l : List Int} {i : Nat} (h : l.length ≤ i) : gt l i = 0 := by
 simp only [gt, List.getD_eq_getElem?_getD]; rw [List.getElem?_eq_none h]; rfl
theorem tailB_vec {o e : List Int} {i : Nat} : tailB o i e = true ↔ Vec o e ∧ ZeroTo i e := by
 unfold tailB
 rw [Bool.and_eq_true, expB_vec, isZeroB_true]
 constructor
 ·rintro ⟨h1, h2⟩
  refine ⟨h1, fun k hk => ?_⟩
  by_cases hl : k < e.length
  ·have := h2 k (by simp; omega)
   rwa [gt_take (by omega)] at this
  ·exact gt_big (by omega)
 ·rintro ⟨h1, h2⟩
  refine ⟨h1, fun k hk => ?_⟩
  simp at hk
  rw [gt_take (by omega)]; exact h2 k (by omega)
theorem expZB_vec {o e : List Int} {i : Nat} : expZB o e i = true ↔ Vec o e ∧ ZeroTo i e := by
 rw [← tailB_vec]
 unfold expZB tailB expB
 rw [Bool.and_eq_true, Bool.and_eq_true, Bool.and_eq_true, allB_true, allB_true, isZeroB_true]
 constructor
 ·rintro ⟨h1, h2⟩
  refine ⟨⟨h1, fun k hk => ((Bool.and_eq_true _ _).mp (h2 k hk)).1⟩, fun k hk => ?_⟩
  rw [List.length_take] at hk
  rw [gt_take (by omega)]
  have := ((Bool.and_eq_true _ _).mp (h2 k (by omega))).2
  simp at this
  rcases this with h | h
  ·omega
  ·exact h
 ·rintro ⟨⟨h1, h2⟩, h3⟩
  refine ⟨h1, fun k hk => ?_⟩
  rw [Bool.and_eq_true]
  refine ⟨h2 k hk, ?_⟩
  simp
  rcases Nat.lt_or_ge i k with hki | hki
  ·exact .inl hki
  ·have := h3 k (by rw [List.length_take]; omega)
   rw [gt_take (by omega)] at this
   exact .inr this
set_option maxHeartbeats 400000 in
theorem tailVector_ok (w : World) (p v : Value) (P : Pr) (e : List Int) (i : Nat) (S S' : Nat → Prop) (hp : PresP S w p P) (hv : Ints S' w v e) (ho : ∀ i, i < P.orders.length → 0 ≤ gt P.orders i ∧ gt P.orders i ≤ 7)
  (hi : i < P.orders.length) (hn : P.orders.length ≤ 6) :
  Calls Tryz.prog 272 #[p, .int .i64 i, v] w fun e1 w' => e1 = .returned (.bool (tailB P.orders i e)) ∧ w = w' := by
 obtain ⟨a, cap, rfl, hcap, _⟩ := hv.shape
 cases hx : expB P.orders e with
 | false =>
  have HX := Lib.hid hx; clear hx
  go_enter Tryz.func272, Tryz.ntmps272
  have hx2 := HX.out
  go_wp2_with (go_at_call 201; refine (isExponents_ok _ _ _ P e S S' hp hv ho).mono ?_; rintro e1 w1 ⟨rfl, rfl⟩)
  go_ret
  exact ⟨ret_b (by rw [tailB, HX.out, Bool.false_and]), rfl⟩
 | true =>
  have hvec := expB_vec.1 hx
  have hle : P.orders.length ≤ e.length := by rw [hvec.1]; omega
  have hs := fun w => run_head w a e.length cap ((i : Int) + 1) (by omega) (by omega)
  have hh := head_ints hv (i + 1) (by omega)
  have HX := Lib.hid hx
  clear hvec
  go_enter Tryz.func272, Tryz.ntmps272
  go_wp2_with (first
   | (go_at_call 201; refine (isExponents_ok _ _ _ P e S S' hp hv ho).mono ?_; rintro e1 w1 ⟨rfl, rfl⟩)
   | (go_at_call 301; refine (isZero_ok _ _ _ S' hh).mono ?_; rintro e1 w1 ⟨rfl, rfl⟩))
  go_ret
  exact ⟨ret_b (by rw [tailB, HX.out, Bool.true_and]), rfl⟩
theorem primeB_true {n : Int} : primeB n = true ↔ n = 2 ∨ n = 3 ∨ n = 5 ∨ n = 7 := by simp [primeB]
theorem prodTo_pos {l : List Int} (k : Nat) (h : ∀ i, i < k → 1 ≤ gt l i) : 1 ≤ prodTo l k := by
 induction k with
 | zero => simp [prodTo]
 | succ k ih =>
  have h1 := ih (fun i hi => h i (by omega))
  have h2 := h k (by omega)
  have := Int.mul_le_mul h1 h2 (by omega) (by omega)
  simp only [prodTo]; omega
theorem prodTo_mono {l : List Int} (k n : Nat) (hkn : k ≤ n) (h : ∀ i, i < n → 1 ≤ gt l i) : prodTo l k ≤ prodTo l n := by
 induction n with
 | zero => have : k = 0 := (by omega); rw [this]; exact Int.le_refl _
 | succ n ih =>
  rcases Nat.lt_or_ge n k with h1 | h1
  ·have : k = n + 1 := by omega
   rw [this]; exact Int.le_refl _
  ·have h2 := ih h1 (fun i hi => h i (by omega))
   have h3 := h n (by omega)
   have h4 := prodTo_pos (l := l) n (fun i hi => h i (by omega))
   have h5 : prodTo l n * 1 ≤ prodTo l n * gt l n := Int.mul_le_mul_of_nonneg_left h3 (by omega)
   simp only [prodTo]
   omega
open Classical in
noncomputable def validB (P : Pr) : Bool := decide (Valid P)
theorem validB_true {P : Pr} (h : Valid P) : validB P = true := by simp [validB, h]
theorem validB_false {P : Pr} (h : ¬ Valid P) : validB P = false := by simp [validB, h]
theorem valid_of {P : Pr} (h : validB P = true) : Valid P := by simpa [validB] using h
theorem Valid.pos {P : Pr} (h : Valid P) (i : Nat) (hi : i < P.orders.length) : 1 ≤ gt P.orders i := by have := h.ord7 i hi; omega
theorem Valid.pre {P : Pr} (h : Valid P) (k : Nat) (hk : k ≤ P.orders.length) : prodTo P.orders k ≤ 729 :=
 Int.le_trans (prodTo_mono k _ hk (fun i hi => h.pos i hi)) h.le729
set_option maxHeartbeats 2000000 in
theorem isPresentation_ok (w : World) (pv : Value) (P : Pr) (S : Nat → Prop) (hp : PresV S w pv P) :
  Calls Tryz.prog 127 #[pv] w (Ret w fun _ v => v = .bool (validB P)) := by
 obtain ⟨vo, vp, vc, rfl, h3⟩ := hp
 have hBx := PresP.box h3 39
 have hg0 : Ext w (w.alloc (.cells #[vo, vp, vc] 39)) := World.grownBy_alloc _ _ _
 go_enter Tryz.func127, Tryz.ntmps127
 obtain ⟨ao, capo, hco, hoi⟩ := hBx.ordAt
 obtain ⟨ap, capp, hcp, hpi⟩ := hBx.powAt
 obtain ⟨ac, capc, hcc, hci⟩ := hBx.conjAt
 by_cases h6 : P.orders.length ≤ 6
 rotate_left
 ·have hd : decide ((6 : Int) < (P.orders.length : Int)) = true := by simp; omega
  go_wp2
  go_ret
  exact ret_bool hg0 (validB_false (fun h => h6 h.n6)).symm
 have hd6 : decide ((6 : Int) < (P.orders.length : Int)) = false := by simp; omega
 by_cases hpl : P.powers.length = P.orders.length
 rotate_left
 ·have hd : ((P.powers.length : Int) != (P.orders.length : Int)) = true := by simp; omega
  have HP := Lib.hid hpl; clear hpl
  go_wp2
  go_ret
  exact ret_bool hg0 (validB_false (fun h => HP.out h.pl)).symm
 have hdp : ((P.powers.length : Int) != (P.orders.length : Int)) = false := by simp [hpl]
 by_cases hcl : P.conj.length = P.orders.length
 rotate_left
 ·have hd : ((P.conj.length : Int) != (P.orders.length : Int)) = true := by simp; omega
  have HP := Lib.hid hpl; clear hpl
  have HC := Lib.hid hcl; clear hcl
  go_wp2
  go_ret
  exact ret_bool hg0 (validB_false (fun h => HC.out h.cl)).symm
 have hdc : ((P.conj.length : Int) != (P.orders.length : Int)) = false := by simp [hcl]
 have hpl2 : P.powers.length ≤ P.orders.length ∧ P.orders.length ≤ P.powers.length := by omega
 have hcl2 : P.conj.length ≤ P.orders.length ∧ P.orders.length ≤ P.conj.length := by omega
 have HP := Lib.hid hpl; clear hpl
 have HC := Lib.hid hcl; clear hcl
 go_wp2
 clear hd6 hdp hdc
 generalize hw0 : w.alloc (.cells #[vo, vp, vc] 39) = w0 at *
 clear hw0
 go_loop [4, 32] (fun pr i => ∃ k : Nat, i = .int .i64 k ∧ pr = .int .i64 (prodTo P.orders k) ∧ k ≤ P.orders.length ∧ prodTo P.orders k ≤ 729 ∧ ∀ i, i < k → primeB (gt P.orders i) = true) (fun _ i => P.orders.length - (intOf i).toNat)
 case atStart => exact ⟨0, rfl, rfl, by omega, by simp [prodTo], fun i hi => by omega⟩
 case round =>
  obtain ⟨k, rfl, rfl, hk, hle, hz⟩ := hrel
  have hp1 : 1 ≤ prodTo P.orders k := prodTo_pos k (fun i hi => by have := primeB_true.1 (hz i hi); omega)
  have HZ := Lib.hid hz; clear hz
  by_cases hlt : k < P.orders.length
  ·obtain ⟨b, off, rfl, _, _, hc⟩ := Ints.at hoi k hlt
   cases hx : primeB (gt P.orders k) with
   | false =>
    have HX := Lib.hid hx
    go_wp2_with (go_at_call 116; refine (isGroupPrime_ok _ _).mono ?_; rintro e1 w1 ⟨rfl, rfl⟩)
    go_ret
    exact ret_bool hg0 (validB_false (fun h => by have := primeB_true.2 (h.ord k hlt); rw [HX.out] at this; cases this)).symm
   | true =>
    have hpr := primeB_true.1 hx
    have hg7 : 2 ≤ gt P.orders k ∧ gt P.orders k ≤ 7 := by omega
    have hg20 : 2 ≤ gt P.orders k := hg7.1
    have hg70 : gt P.orders k ≤ 7 := hg7.2
    have hm0 : 0 ≤ prodTo P.orders k * gt P.orders k := Int.mul_nonneg (by omega) (by omega)
    have hm1 : prodTo P.orders k * gt P.orders k ≤ 5103 := by
     have h1 : prodTo P.orders k * gt P.orders k ≤ 729 * gt P.orders k := Int.mul_le_mul_of_nonneg_right hle (by omega)
     omega
    have hsucc : prodTo P.orders (k + 1) = prodTo P.orders k * gt P.orders k := rfl
    have HSC := Lib.hid hsucc; clear hsucc hpr hg7
    by_cases h729 : prodTo P.orders k * gt P.orders k ≤ 729
    ·go_wp2_with (go_at_call 116; refine (isGroupPrime_ok _ _).mono ?_; rintro e1 w1 ⟨rfl, rfl⟩)
     go_round
     case rel => exact ⟨k + 1, by go_num, by rw [HSC.out], by omega, by rw [HSC.out]; exact h729, fun i hi => by
      rcases Nat.lt_or_ge i k with h1 | h1
      ·exact HZ.out i h1
      ·have : i = k := by omega
       rw [this]; exact hx⟩
     case measure => simp [intOf]; omega
    ·go_wp2_with (go_at_call 116; refine (isGroupPrime_ok _ _).mono ?_; rintro e1 w1 ⟨rfl, rfl⟩)
     go_ret
     exact ret_bool hg0 (validB_false (fun h => by have := h.pre (k + 1) hlt; rw [HSC.out] at this; omega)).symm
  ·have hke : k = P.orders.length := by omega
   subst hke
   have hord : ∀ i, i < P.orders.length → 0 ≤ gt P.orders i ∧ gt P.orders i ≤ 7 := fun i hi => by have := primeB_true.1 (HZ.out i hi); omega
   have HO := Lib.hid hord; clear hord
   have HLE := Lib.hid hle; clear hle hp1
   go_wp2
   clear hcc hcp hco
   go_loop [50] (fun i => ∃ k : Nat, i = .int .i64 k ∧ k ≤ P.orders.length ∧ ∀ i, i < k → tailB P.orders i (gt P.powers i) = true ∧ (gt P.conj i).length = P.orders.length - 1 - i ∧ ∀ j, j < P.orders.length - 1 - i → tailB P.orders i (gt (gt P.conj i) j) = true) (fun i => P.orders.length - (intOf i).toNat)
   case atStart => exact ⟨0, rfl, by omega, fun i hi => by omega⟩
   case round =>
    obtain ⟨k, rfl, hk, hz⟩ := hrel
    have HZ2 := Lib.hid hz; clear hz
    by_cases hlt : k < P.orders.length
    ·obtain ⟨ap, capp, hcp, hpi⟩ := hBx.powAt
     obtain ⟨ac, capc, hcc, hci⟩ := hBx.conjAt
     obtain ⟨b1, o1, a2, cap2, rfl, _, _, hc2, hi2⟩ := Rows2.at hpi k (by omega)
     obtain ⟨b3, o3, a4, cap4, rfl, _, _, hc4, hi4⟩ := Rows3.at hci k (by omega)
     have hbad1 : tailB P.orders k (gt P.powers k) = false → validB P = false := fun hx => validB_false (fun h => by have := tailB_vec.2 (h.pv k hlt); rw [hx] at this; cases this)
     have hbad2 : ¬ (gt P.conj k).length = P.orders.length - 1 - k → validB P = false := fun hx => validB_false (fun h => hx (h.cv k hlt).1)
     have hbad3 : ∀ j, j < P.orders.length - 1 - k → tailB P.orders k (gt (gt P.conj k) j) = false → validB P = false := fun j hj hx => validB_false (fun h => by have := tailB_vec.2 ((h.cv k hlt).2 j hj); rw [hx] at this; cases this)
     have HB1 := Lib.hid hbad1; have HB2 := Lib.hid hbad2; have HB3 := Lib.hid hbad3; clear hbad1 hbad2 hbad3
     cases hx : tailB P.orders k (gt P.powers k) with
     | false =>
      have HX := Lib.hid hx
      go_wp2_with (go_at_call 272; refine (tailVector_ok _ _ _ P _ k Any Any hBx hi2 HO.out hlt h6).mono ?_; rintro e1 w1 ⟨rfl, rfl⟩)
      go_ret
      exact ret_bool hg0 (HB1.out HX.out).symm
     | true =>
      have HX := Lib.hid hx
      by_cases hlen : (gt P.conj k).length = P.orders.length - 1 - k
      ·have hd : (((gt P.conj k).length : Int) != (P.orders.length : Int) - 1 - k) = false := by simp; omega
       have hl2 : (gt P.conj k).length ≤ P.orders.length - 1 - k ∧ P.orders.length - 1 - k ≤ (gt P.conj k).length := by omega
       have HLN := Lib.hid hlen; clear hlen
       go_wp2_with (go_at_call 272; refine (tailVector_ok _ _ _ P _ k Any Any hBx hi2 HO.out hlt h6).mono ?_; rintro e1 w1 ⟨rfl, rfl⟩)
       clear hd hx hcp hc2
       go_loop [80] (fun i => ∃ j : Nat, i = .int .i64 j ∧ j ≤ (gt P.conj k).length ∧ ∀ i, i < j → tailB P.orders k (gt (gt P.conj k) i) = true) (fun i => (gt P.conj k).length - (intOf i).toNat)
       case atStart => exact ⟨0, rfl, by omega, fun i hi => by omega⟩
       case round =>
        obtain ⟨j, rfl, hj, hz⟩ := hrel
        have HZ3 := Lib.hid hz; clear hz
        by_cases hlt2 : j < (gt P.conj k).length
        ·obtain ⟨b5, o5, a6, cap6, rfl, _, _, hc6, hi6⟩ := Rows2.at hi4 j hlt2
         cases hy : tailB P.orders k (gt (gt P.conj k) j) with
         | false =>
          have HY := Lib.hid hy
          go_wp2_with (go_at_call 272; refine (tailVector_ok _ _ _ P _ k Any Any hBx hi6 HO.out hlt h6).mono ?_; rintro e1 w1 ⟨rfl, rfl⟩)
          go_ret
          exact ret_bool hg0 (HB3.out j (by omega) HY.out).symm
         | true =>
          have HY := Lib.hid hy
          go_wp2_with (go_at_call 272; refine (tailVector_ok _ _ _ P _ k Any Any hBx hi6 HO.out hlt h6).mono ?_; rintro e1 w1 ⟨rfl, rfl⟩)
          go_round
          case rel => exact ⟨j + 1, by go_num, by omega, fun i hi => by
           rcases Nat.lt_or_ge i j with h1 | h1
           ·exact HZ3.out i h1
           ·have : i = j := by omega
            rw [this]; exact HY.out⟩
          case measure => simp [intOf]; omega
        ·have hje : j = (gt P.conj k).length := by omega
         go_wp2
         go_round
         case rel => exact ⟨k + 1, by go_num, by omega, fun i hi => by
          rcases Nat.lt_or_ge i k with h1 | h1
          ·exact HZ2.out i h1
          ·have : i = k := by omega
           rw [this]; exact ⟨HX.out, HLN.out, fun i hi => HZ3.out i (by omega)⟩⟩
         case measure => simp [intOf]; omega
      ·have hd : (((gt P.conj k).length : Int) != (P.orders.length : Int) - 1 - k) = true := by simp; omega
       have HLN := Lib.hid hlen; clear hlen
       go_wp2_with (go_at_call 272; refine (tailVector_ok _ _ _ P _ k Any Any hBx hi2 HO.out hlt h6).mono ?_; rintro e1 w1 ⟨rfl, rfl⟩)
       go_ret
       exact ret_bool hg0 (HB2.out HLN.out).symm
    ·have hke : k = P.orders.length := by omega
     subst hke
     go_wp2
     go_ret
     refine ret_bool hg0 (validB_true ?_).symm
     exact ⟨HLE.out, h6, HP.out, HC.out, fun i hi => primeB_true.1 (HZ.out i hi), fun i hi => tailB_vec.1 (HZ2.out i hi).1,
      fun i hi => ⟨(HZ2.out i hi).2.1, fun j hj => tailB_vec.1 ((HZ2.out i hi).2.2 j hj)⟩⟩
end Go.Proofs.YtmjkoejegfjbbaaGreat
namespace Go.Proofs.YtmjkoejegfjbbaaGreat
open Go.RowKit
def capTo (l : List Int) : Nat → Int
 | 0 => 1
 | k + 1 => if capTo l k ≤ 729 then capTo l k * gt l k else capTo l k
theorem capTo_le {l : List Int} (n : Nat) (h : ∀ i, i < n → 1 ≤ gt l i) : (capTo l n ≤ 729 ↔ prodTo l n ≤ 729) ∧ (capTo l n ≤ 729 → capTo l n = prodTo l n) := by
 induction n with
 | zero => simp [capTo, prodTo]
 | succ n ih =>
  obtain ⟨h1, h2⟩ := ih (fun i hi => h i (by omega))
  simp only [capTo]
  split
  ·rename_i hc
   rw [h2 hc]; exact ⟨Iff.rfl, fun _ => rfl⟩
  ·rename_i hc
   have h3 := prodTo_mono (l := l) n (n + 1) (by omega) h
   have h4 : ¬ prodTo l n ≤ 729 := fun h => hc (h1.2 h)
   exact ⟨⟨fun h => absurd h hc, fun h => absurd (Int.le_trans h3 h) h4⟩, fun h => absurd h hc⟩
theorem capTo_bd {l : List Int} (n : Nat) (h : ∀ i, i < n → 1 ≤ gt l i ∧ gt l i ≤ 7) : 1 ≤ capTo l n ∧ capTo l n ≤ 5103 := by
 induction n with
 | zero => simp [capTo]
 | succ n ih =>
  have h1 := ih (fun i hi => h i (by omega))
  have h2 := h n (by omega)
  simp only [capTo]
  split
  ·have h3 : capTo l n * gt l n ≤ 729 * gt l n := Int.mul_le_mul_of_nonneg_right (by omega) (by omega)
   have h4 := Int.mul_le_mul h1.1 h2.1 (by omega) (by omega)
   omega
  ·omega
set_option maxHeartbeats 400000 in
theorem l07Product_ok (w : World) (v : Value) (l : List Int) (S : Nat → Prop) (hv : Ints S w v l) (ho : ∀ i, i < l.length → 1 ≤ gt l i ∧ gt l i ≤ 7) :
  Calls Tryz.prog 275 #[v] w fun e w' => e = .returned (.int .i64 (capTo l l.length)) ∧ w = w' := by
 obtain ⟨a, cap, rfl, _, _⟩ := hv.shape
 have HO := Lib.hid ho; clear ho
 go_enter Tryz.func275, Tryz.ntmps275
 go_wp2
 go_loop [3, 4] (fun pr i => ∃ k : Nat, i = .int .i64 k ∧ pr = .int .i64 (capTo l k) ∧ k ≤ l.length) (fun _ i => l.length - (intOf i).toNat)
 case atStart => exact ⟨0, rfl, rfl, by omega⟩
 case round =>
  obtain ⟨k, rfl, rfl, hk⟩ := hrel
  by_cases hlt : k < l.length
  ·obtain ⟨b, off, rfl, _, _, hc⟩ := Ints.at hv k hlt
   have h1 := HO.out k hlt
   have hb := capTo_bd (l := l) k (fun i hi => HO.out i (by omega))
   have hb0 : 1 ≤ capTo l k := hb.1
   have hsucc : capTo l (k + 1) = if capTo l k ≤ 729 then capTo l k * gt l k else capTo l k := rfl
   have HSC := Lib.hid hsucc; clear hsucc hb
   by_cases h729 : capTo l k ≤ 729
   ·have hm0 : 0 ≤ capTo l k * gt l k := Int.mul_nonneg (by omega) (by omega)
    have hm1 : capTo l k * gt l k ≤ 5103 := by
     have h1 : capTo l k * gt l k ≤ 729 * gt l k := Int.mul_le_mul_of_nonneg_right h729 (by omega)
     omega
    go_wp2
    go_round
    case rel => exact ⟨k + 1, by go_num, by rw [HSC.out, if_pos h729], by omega⟩
    case measure => simp [intOf]; omega
   ·go_wp2
    go_round
    case rel => exact ⟨k + 1, by go_num, by rw [HSC.out, if_neg h729], by omega⟩
    case measure => simp [intOf]; omega
  ·have hke : k = l.length := by omega
   subst hke
   go_wp2
   go_ret
   exact ⟨rfl, rfl⟩
def ordP (P : Pr) : Int := prodTo P.orders P.orders.length
theorem Valid.ordP_pos {P : Pr} (h : Valid P) : 1 ≤ ordP P := prodTo_pos _ (fun i hi => h.pos i hi)
set_option maxHeartbeats 400000 in
theorem orderOf_ok (w : World) (p : Value) (P : Pr) (S : Nat → Prop) (hP : Valid P) (hp : PresP S w p P) :
  Calls Tryz.prog 150 #[p] w fun e w' => e = .returned (.int .i64 (ordP P)) ∧ w = w' := by
 obtain ⟨pb, po, rfl⟩ := hp.shape
 obtain ⟨ao, capo, hco, hoi⟩ := hp.ordAt
 have hn6 := hP.n6
 go_enter Tryz.func150, Tryz.ntmps150
 go_wp2
 go_loop [3, 11] (fun pr i => ∃ k : Nat, i = .int .i64 k ∧ pr = .int .i64 (prodTo P.orders k) ∧ k ≤ P.orders.length) (fun _ i => P.orders.length - (intOf i).toNat)
 case atStart => exact ⟨0, rfl, rfl, by omega⟩
 case round =>
  obtain ⟨k, rfl, rfl, hk⟩ := hrel
  by_cases hlt : k < P.orders.length
  ·obtain ⟨b, off, rfl, _, _, hc⟩ := Ints.at hoi k hlt
   have h1 := hP.pre (k + 1) hlt
   have h0 := prodTo_pos (l := P.orders) (k + 1) (fun i hi => hP.pos i (by omega))
   have hm0 : 0 ≤ prodTo P.orders k * gt P.orders k := by simp only [prodTo] at h0; omega
   have hm1 : prodTo P.orders k * gt P.orders k ≤ 729 := h1
   clear h0 h1
   go_wp2
   go_round
   case rel => exact ⟨k + 1, by go_num, rfl, by omega⟩
   case measure => simp [intOf]; omega
  ·have hke : k = P.orders.length := by omega
   subst hke
   go_wp2
   go_ret
   exact ⟨rfl, rfl⟩
set_option maxHeartbeats 400000 in
theorem l10Order_ok (w : World) (pv : Value) (P : Pr) (S : Nat → Prop) (hP : Valid P) (hp : PresV S w pv P) :
  Calls Tryz.prog 145 #[pv] w (Ret w fun _ v => v = .int .i64 (ordP P)) := by
 obtain ⟨vo, vp, vc, rfl, h3⟩ := hp
 have hB := PresP.box h3 39
 obtain ⟨ao, capo, hco, hoi⟩ := hB.ordAt
 have hn6 := hP.n6
 go_enter Tryz.func145, Tryz.ntmps145
 go_wp2
 go_loop [3, 4] (fun pr i => ∃ k : Nat, i = .int .i64 k ∧ pr = .int .i64 (prodTo P.orders k) ∧ k ≤ P.orders.length) (fun _ i => P.orders.length - (intOf i).toNat)
 case atStart => exact ⟨0, rfl, rfl, by omega⟩
 case round =>
  obtain ⟨k, rfl, rfl, hk⟩ := hrel
  by_cases hlt : k < P.orders.length
  ·obtain ⟨b, off, rfl, _, _, hc⟩ := Ints.at hoi k hlt
   have h1 := hP.pre (k + 1) hlt
   have h0 := prodTo_pos (l := P.orders) (k + 1) (fun i hi => hP.pos i (by omega))
   have hm0 : 0 ≤ prodTo P.orders k * gt P.orders k := by simp only [prodTo] at h0; omega
   have hm1 : prodTo P.orders k * gt P.orders k ≤ 729 := h1
   clear h0 h1
   go_wp2
   go_round
   case rel => exact ⟨k + 1, by go_num, rfl, by omega⟩
   case measure => simp [intOf]; omega
  ·have hke : k = P.orders.length := by omega
   subst hke
   go_wp2
   go_ret
   exact ⟨_, rfl, World.grownBy_alloc _ _ _, rfl⟩
end Go.Proofs.YtmjkoejegfjbbaaGreat
namespace Go.Proofs.YtmjkoejegfjbbaaGreat
theorem tvec_keep {P : Pr} (hP : Valid P) (f j : Nat) (hf : P.orders.length ≤ f + 1 + j)
  (ih : ∀ (e : List Int) (i : Nat), Vec P.orders e → i < P.orders.length → P.orders.length ≤ f + i → ∀ k, k < i → gt (tgen P f e i) k = gt e k)
  (c : List Int) (hc : Vec P.orders c) (hz : ZeroTo j c) (e : List Int) (he : Vec P.orders e) : ∀ k, k ≤ j → gt (tvec (tgen P f) e c) k = gt e k := by
 have hstep : ∀ m, m ≤ P.orders.length → Vec P.orders (tvecTo (tgen P f) c e m) ∧ ∀ k, k ≤ j → gt (tvecTo (tgen P f) c e m) k = gt e k := by
  intro m
  induction m with
  | zero => intro _; exact ⟨he, fun k _ => rfl⟩
  | succ m ihm =>
   intro hm
   obtain ⟨h1, h2⟩ := ihm (by omega)
   unfold tvecTo
   by_cases h0 : gt c m = 0
   ·rw [h0]; exact ⟨h1, h2⟩
   ·have hmj : ¬ m ≤ j := fun h => h0 (hz m h)
    refine iter_inv (fun y => Vec P.orders y ∧ ∀ k, k ≤ j → gt y k = gt e k) _ (fun y hy => ⟨tgen_vec hP f y m hy.1 (by omega) (by omega), fun k hk => ?_⟩) _ _ ⟨h1, h2⟩
    rw [ih y m hy.1 (by omega) (by omega) k (by omega)]; exact hy.2 k hk
 intro k hk
 exact (hstep c.length (by rw [hc.1]; omega)).2 k hk
theorem tgen_entries {P : Pr} (hP : Valid P) (f : Nat) : ∀ (e : List Int) (j : Nat), Vec P.orders e → j < P.orders.length → P.orders.length ≤ f + j →
  (∀ k, k < j → gt (tgen P f e j) k = gt e k) ∧ gt (tgen P f e j) j = if gt e j + 1 = gt P.orders j then 0 else gt e j + 1 := by
 induction f with
 | zero => intro e j _ hj hf; omega
 | succ f ih =>
  intro e j he hj hf
  have ihk : ∀ (e : List Int) (i : Nat), Vec P.orders e → i < P.orders.length → P.orders.length ≤ f + i → ∀ k, k < i → gt (tgen P f e i) k = gt e k := fun e i a b c k hk => (ih e i a b c).1 k hk
  have hl := he.1
  have hzl : j + 1 + (e.drop (j + 1)).length ≤ e.length := by simp; omega
  have hz := he.zeroed j (e.drop (j + 1)).length hzl
  have hx := he.2 j hj
  have ho := hP.ord7 j hj
  have hlz := length_zeroed e j (e.drop (j + 1)).length hzl
  obtain ⟨e2, he2⟩ : ∃ e2, e2 = (if gt e j + 1 = gt P.orders j then tvec (tgen P f) (((zeroed e j (e.drop (j + 1)).length).set j (gt e j + 1)).set j 0) (gt P.powers j) else (zeroed e j (e.drop (j + 1)).length).set j (gt e j + 1)) := ⟨_, rfl⟩
  have hvk : ∀ c, Vec P.orders c → ZeroTo j c → ∀ x, Vec P.orders x → Vec P.orders (tvec (tgen P f) x c) := fun c hc hz x hx =>
   tvec_vec hc (fun e i he hi h0 => tgen_vec hP f e i he hi (by
    have : ¬ i ≤ j := fun h => h0 (hz i h)
    omega)) hx
  have hkeep : ∀ k, k < j → gt (zeroed e j (e.drop (j + 1)).length) k = gt e k := fun k hk => by rw [gt_zeroed _ _ _ _ hzl, if_neg (by omega)]
  have h2 : Vec P.orders e2 ∧ (∀ k, k < j → gt e2 k = gt e k) ∧ gt e2 j = if gt e j + 1 = gt P.orders j then 0 else gt e j + 1 := by
   rw [he2]
   split
   ·rename_i hc
    rw [List.set_set]
    have hv0 : Vec P.orders ((zeroed e j (e.drop (j + 1)).length).set j 0) := hz.set j 0 ⟨by omega, fun _ => by omega⟩
    have hk := tvec_keep hP f j (by omega) ihk _ (hP.pv j hj).1 (hP.pv j hj).2 _ hv0
    refine ⟨hvk _ (hP.pv j hj).1 (hP.pv j hj).2 _ hv0, fun k hkj => ?_, ?_⟩
    ·rw [hk k (by omega), gt_set_ne _ _ _ _ (by omega)]; exact hkeep k hkj
    ·rw [hk j (Nat.le_refl _), gt_set_eq _ _ _ (by omega)]
   ·rename_i hc
    refine ⟨hz.set j _ ⟨by omega, fun _ => by omega⟩, fun k hkj => ?_, ?_⟩
    ·rw [gt_set_ne _ _ _ _ (by omega)]; exact hkeep k hkj
    ·rw [gt_set_eq _ _ _ (by omega)]
  have hstep : ∀ m, m ≤ (e.drop (j + 1)).length → Vec P.orders (tconjTo (tgen P f) (gt P.conj j) (e.drop (j + 1)) e2 m) ∧ ∀ k, k ≤ j → gt (tconjTo (tgen P f) (gt P.conj j) (e.drop (j + 1)) e2 m) k = gt e2 k := by
   intro m
   induction m with
   | zero => intro _; exact ⟨h2.1, fun k _ => rfl⟩
   | succ m ihm =>
    intro hm
    obtain ⟨h3, h4⟩ := ihm (by omega)
    have hmm : m < P.orders.length - 1 - j := by simp at hm; omega
    have hc := (hP.cv j hj).2 m hmm
    unfold tconjTo
    refine iter_inv (fun y => Vec P.orders y ∧ ∀ k, k ≤ j → gt y k = gt e2 k) _ (fun y hy => ⟨hvk _ hc.1 hc.2 _ hy.1, fun k hk => ?_⟩) _ _ ⟨h3, h4⟩
    rw [tvec_keep hP f j (by omega) ihk _ hc.1 hc.2 _ hy.1 k hk]; exact hy.2 k hk
  have hfin := hstep _ (Nat.le_refl _)
  have hdef : tgen P (f + 1) e j = tconjTo (tgen P f) (gt P.conj j) (e.drop (j + 1)) e2 (e.drop (j + 1)).length := by rw [he2]; rfl
  rw [hdef]
  exact ⟨fun k hk => by rw [hfin.2 k (by omega)]; exact h2.2.1 k hk, by rw [hfin.2 j (Nat.le_refl _)]; exact h2.2.2⟩
def tg (P : Pr) (e : List Int) (j : Nat) : List Int := tgen P P.orders.length e j
def tv (P : Pr) (e f : List Int) : List Int := tvec (tg P) e f
theorem tg_vec {P : Pr} (hP : Valid P) (e : List Int) (j : Nat) (he : Vec P.orders e) (hj : j < P.orders.length) : Vec P.orders (tg P e j) := tgen_vec hP _ e j he hj (by omega)
theorem tv_vec {P : Pr} (hP : Valid P) (e f : List Int) (he : Vec P.orders e) (hf : Vec P.orders f) : Vec P.orders (tv P e f) := tvec_vec hf (fun e j he hj _ => tg_vec hP e j he hj) he
end Go.Proofs.YtmjkoejegfjbbaaGreat
namespace Go.Proofs.YtmjkoejegfjbbaaGreat
open Go.RowKit
theorem tgenOk (P : Pr) (hP : Valid P) (f : Nat) : TgenOk P f := by
 induction f with
 | zero => intro base w p e E j _ _ _ hj hf; omega
 | succ f ih => exact timesGenerator_of P hP f ih
theorem timesGenerator_ok (P : Pr) (hP : Valid P) (base : Nat) (w : World) (p e : Value) (E : List Int) (j : Nat) (hp : PresP (Off e.ownBlock) w p P) (hE : Own base w e E) (hv : Vec P.orders E) (hj : j < P.orders.length) :
  Calls Tryz.prog 158 #[p, e, .int .i64 j] w (Mut w e.ownBlock fun w' v => v = .tuple #[] ∧ Own base w' e (tg P E j)) :=
 tgenOk P hP _ base w p e E j hp hE hv hj (by omega)
theorem timesVector_ok (P : Pr) (hP : Valid P) (base : Nat) (w : World) (p e f : Value) (E F : List Int) (hp : PresP (Off e.ownBlock) w p P) (hE : Own base w e E)
  (hv : Vec P.orders E) (hf : Ints (Off e.ownBlock) w f F) (hF : Vec P.orders F) :
  Calls Tryz.prog 282 #[p, e, f] w (Mut w e.ownBlock fun w' v => v = .tuple #[] ∧ Own base w' e (tv P E F)) :=
 timesVector_of P hP _ (tgenOk P hP _) base w p e f E F hp hE hv hf hF (fun j hj _ => by omega)
theorem off_of {base : Nat} {w w1 : World} {v : Value} {l : List Int} {S : Nat → Prop} (hO : Own base w1 v l) (hb : w.heap.size ≤ base) (hg : Ext w w1) :
  ∀ k, S k → k < w.heap.size → Off v.ownBlock k ∧ k < w1.heap.size ∧ w1.heap[k]? = w.heap[k]? := by
 intro k _ hk
 refine ⟨fun h => ?_, Nat.lt_of_lt_of_le hk hg.size, hg.block k hk (by simp)⟩
 have := (hO.lt k h).1; omega
theorem mut_ext {base : Nat} {w w1 w2 : World} {v : Value} {l : List Int} (hg : Ext w w1) (hO : Own base w1 v l) (hb : w.heap.size ≤ base) (h : w1.grownBy w2 v.ownBlock) : Ext w w2 :=
 grown_own hg h (fun j hj hlt => by have := (hO.lt j hj).1; omega)
set_option maxHeartbeats 400000 in
theorem multiply_ok (P : Pr) (hP : Valid P) (w : World) (p a b : Value) (A B : List Int) (Sp Sa Sb : Nat → Prop) (hp : PresP Sp w p P) (ha : Ints Sa w a A) (hb : Ints Sb w b B) (hA : Vec P.orders A) (hB : Vec P.orders B) :
  Calls Tryz.prog 206 #[p, a, b] w (Ret w fun w' v => Own w.heap.size w' v (tv P A B)) := by
 have hn6 := hP.n6
 have hlA : A.length ≤ 6 := by rw [hA.1]; omega
 go_enter Tryz.func206, Tryz.ntmps206
 go_wp2_with fail
 refine Calls.mono (clone_ok w a A Sa ha (by omega)) ?_
 rintro e1 w1 ⟨r, rfl, hg1, hR⟩
 go_wp2_with fail
 refine Calls.mono (timesVector_ok P hP w.heap.size w1 p r b A B (hp.mono (off_of hR (Nat.le_refl _) hg1)) hR hA (hb.mono (off_of hR (Nat.le_refl _) hg1)) hB) ?_
 rintro e2 w2 ⟨v2, rfl, hg2, rfl, hR2⟩
 go_wp2
 go_ret
 exact ⟨_, rfl, mut_ext hg1 hR (Nat.le_refl _) hg2, hR2⟩
def iPow (P : Pr) (a : List Int) (k : Int) : List Int := iter k.toNat (fun out => tv P out a) (List.replicate a.length 0)
theorem zeros_vec' {P : Pr} (hP : Valid P) {a : List Int} (ha : Vec P.orders a) : Vec P.orders (List.replicate a.length 0) := by
 refine ⟨by rw [List.length_replicate]; exact ha.1, fun i hi => ?_⟩
 have := hP.ord7 i hi
 rw [gt_replicate]; omega
theorem iPow_vec {P : Pr} (hP : Valid P) (a : List Int) (k : Int) (ha : Vec P.orders a) : Vec P.orders (iPow P a k) :=
 iter_inv (Vec P.orders) _ (fun y hy => tv_vec hP y a hy ha) _ _ (zeros_vec' hP ha)
set_option maxHeartbeats 400000 in
theorem power_ok (P : Pr) (hP : Valid P) (w : World) (p a : Value) (A : List Int) (k : Int) (Sp Sa : Nat → Prop) (hp : PresP Sp w p P) (ha : Ints Sa w a A) (hA : Vec P.orders A) (hk : k ≤ 1000000000) :
  Calls Tryz.prog 306 #[p, a, .int .i64 k] w (Ret w fun w' v => Own w.heap.size w' v (iPow P A k)) := by
 have hn6 := hP.n6
 have hlA : A.length ≤ 6 := by rw [hA.1]; omega
 obtain ⟨aa, capa, rfl, _, _⟩ := ha.shape
 go_enter Tryz.func306, Tryz.ntmps306
 go_wp2_with (at_make; refine wp_make_ints rfl _ _ rfl w.heap.size A.length w.heap.size rfl _ rfl rfl rfl (by omega) (Nat.le_refl _) ?_; intro w1 ho1 hg1 _)
 generalize Value.slice (some ⟨w.heap.size, 0, none⟩) A.length A.length = r at *
 go_loopw [12] (fun i wr => ∃ m : Nat, i = .int .i64 m ∧ m ≤ k.toNat ∧ Ext w wr ∧ Own w.heap.size wr r (iter m (fun out => tv P out A) (List.replicate A.length 0))) (fun i _ => k.toNat - (intOf i).toNat)
 case atStart => exact ⟨0, rfl, by omega, hg1, ho1⟩
 case round =>
  obtain ⟨m, rfl, hm, hg, hO⟩ := hrel
  by_cases hlt : (m : Int) < k
  ·have hvm : Vec P.orders (iter m (fun out => tv P out A) (List.replicate A.length 0)) := iter_inv (Vec P.orders) _ (fun y hy => tv_vec hP y A hy hA) _ _ (zeros_vec' hP hA)
   have HV := Lib.hid hvm; clear hvm
   go_wp2_with fail
   refine Calls.mono (timesVector_ok P hP w.heap.size wr p r _ _ A (hp.mono (off_of hO (Nat.le_refl _) hg)) hO HV.out (ha.mono (off_of hO (Nat.le_refl _) hg)) hA) ?_
   rintro e2 w2 ⟨v2, rfl, hg2, rfl, hR2⟩
   have hg3 := mut_ext hg hO (Nat.le_refl _) hg2
   go_wp2
   go_roundw
   case rel => exact ⟨m + 1, by go_num, by omega, hg3, hR2⟩
   case measure => simp [intOf]; omega
  ·have hme : m = k.toNat := by omega
   have HO : Hid (Own w.heap.size wr r (iPow P A k)) := by rw [hme] at hO; exact hO
   clear hO hme
   go_wp2
   go_ret
   exact ⟨_, rfl, hg, HO.out⟩
end Go.Proofs.YtmjkoejegfjbbaaGreat
namespace Go.Proofs.YtmjkoejegfjbbaaGreat
open Go.RowKit
def zeros (n : Nat) : List Int := List.replicate n 0
def rImgTo (at_ : List Int → List Int → List Int) (cs : List (List Int)) (i : Nat) (x out : List Int) : Nat → List Int
 | 0 => out
 | k + 1 => iter (gt x (i + 1 + k)).toNat (fun out => at_ out (gt cs k)) (rImgTo at_ cs i x out k)
def rAt (P : Pr) : Nat → Nat → List Int → List Int → List Int
 | 0, _, _, _ => zeros P.orders.length
 | f + 1, i, A, B =>
  let left := iter (gt B i).toNat (fun l => rImgTo (rAt P f (i + 1)) (gt P.conj i) i l (zeros P.orders.length) f) (A.set i 0)
  let rest := rAt P f (i + 1) left (B.set i 0)
  let c := gt A i + gt B i
  if gt P.orders i ≤ c then (rAt P f (i + 1) (gt P.powers i) rest).set i (c - gt P.orders i) else rest.set i c
def rImage (P : Pr) (f i : Nat) (x : List Int) : List Int := rImgTo (rAt P f (i + 1)) (gt P.conj i) i x (zeros P.orders.length) f
theorem zeros_vec {P : Pr} (hP : Valid P) : Vec P.orders (zeros P.orders.length) := by
 refine ⟨by simp [zeros], fun i hi => ?_⟩
 have := hP.ord7 i hi
 unfold zeros; rw [gt_replicate]; omega
def AtVec (P : Pr) (f : Nat) : Prop := ∀ i A B, i + f = P.orders.length → Vec P.orders A → Vec P.orders B → Vec P.orders (rAt P f i A B)
theorem rImgTo_vec {P : Pr} (hP : Valid P) (f i : Nat) (hi : i + (f + 1) = P.orders.length) (hat : AtVec P f) (x out : List Int) (ho : Vec P.orders out) (k : Nat) (hk : k ≤ f) :
  Vec P.orders (rImgTo (rAt P f (i + 1)) (gt P.conj i) i x out k) := by
 induction k with
 | zero => exact ho
 | succ k ih =>
  unfold rImgTo
  exact iter_inv (Vec P.orders) _ (fun y hy => hat _ _ _ (by omega) hy ((hP.cv i (by omega)).2 k (by omega)).1) _ _ (ih (by omega))
theorem rAt_vec {P : Pr} (hP : Valid P) (f : Nat) : AtVec P f := by
 induction f with
 | zero => intro i A B _ _ _; exact zeros_vec hP
 | succ f ih =>
  intro i A B hi hA hB
  have ho := hP.ord7 i (by omega)
  have hAi := hA.2 i (by omega)
  have hBi := hB.2 i (by omega)
  have hl : Vec P.orders (iter (gt B i).toNat (fun l => rImgTo (rAt P f (i + 1)) (gt P.conj i) i l (zeros P.orders.length) f) (A.set i 0)) :=
   iter_inv (Vec P.orders) _ (fun y hy => rImgTo_vec hP f i hi ih _ _ (zeros_vec hP) f (Nat.le_refl _)) _ _ (hA.set i 0 ⟨by omega, fun _ => by omega⟩)
  have hr := ih (i + 1) _ _ (by omega) hl (hB.set i 0 ⟨by omega, fun _ => by omega⟩)
  simp only [rAt]
  split
  ·exact (ih (i + 1) _ _ (by omega) (hP.pv i (by omega)).1 hr).set i _ ⟨by omega, fun _ => by omega⟩
  ·exact hr.set i _ ⟨by omega, fun _ => by omega⟩
def AtOk (P : Pr) (f : Nat) : Prop :=
 ∀ (w : World) (pv a b : Value) (i : Nat) (A B : List Int) (Sp Sa Sb : Nat → Prop), i + f = P.orders.length → PresV Sp w pv P → Ints Sa w a A → Ints Sb w b B → Vec P.orders A → Vec P.orders B →
  Calls Tryz.prog 331 #[pv, .int .i64 i, a, b] w (Ret w fun w' v => Own w.heap.size w' v (rAt P f i A B))
set_option maxHeartbeats 2000000 in
theorem l08Image_of (P : Pr) (hP : Valid P) (f : Nat) (ih : AtOk P f) (w : World) (pv x : Value) (i : Nat) (X : List Int) (Sp Sx : Nat → Prop) (hi : i + (f + 1) = P.orders.length) (hp : PresV Sp w pv P)
  (hx : Ints Sx w x X) (hX : Vec P.orders X) :
  Calls Tryz.prog 384 #[pv, .int .i64 i, x] w (Ret w fun w' v => Own w.heap.size w' v (rImage P f i X)) := by
 obtain ⟨vo, vp, vc, rfl, h3⟩ := hp
 obtain ⟨ax, capx, rfl, _, _⟩ := hx.shape
 have hn6 := hP.n6
 have hB := PresP.box h3 39
 obtain ⟨ao, capo, hco, hoi⟩ := hB.ordAt
 go_enter Tryz.func384, Tryz.ntmps384
 go_wp2_with (at_make; refine wp_make_ints rfl _ _ rfl (w.heap.size + 1) P.orders.length (w.heap.size + 1) (by simp) _ rfl rfl rfl (by omega) (by simp) ?_; intro w1 ho1 hg1 _)
 have hw1 : Ext (w.alloc (.cells #[vo, vp, vc] 39)) w1 := hg1
 have hBx : PresP Any w1 (.pointer (some ⟨w.heap.size, 0, none⟩)) P := hB.ext hw1
 have hxx : Ints Sx w1 (.slice ax X.length capx) X := (hx.ext (World.grownBy_alloc _ _ _)).ext hw1
 have hgw : Ext w w1 := grown_trans (World.grownBy_alloc _ _ _) hw1
 have hic : i < P.conj.length := by rw [hP.cl]; omega
 have hlc : f ≤ (gt P.conj i).length := by rw [(hP.cv i (by omega)).1]; omega
 clear hco hoi hg1 hw1 hx hB
 go_loopw [8, 9] (fun v j wr => ∃ k : Nat, j = .int .i64 ((i : Int) + 1 + k) ∧ k ≤ f ∧ Ext w1 wr ∧ Own (w.heap.size + 1) wr v (rImgTo (rAt P f (i + 1)) (gt P.conj i) i X (zeros P.orders.length) k)) (fun _ j _ => P.orders.length - (intOf j).toNat)
 case atStart => exact ⟨0, by simp, by omega, Ext.refl _, ho1⟩
 case round =>
  clear ho1
  obtain ⟨k, rfl, hk, hg, hO⟩ := hrel
  by_cases hlt : k < f
  ·have hxk := hX.2 (i + 1 + k) (by omega)
   have hx7 := hP.ord7 (i + 1 + k) (by omega)
   have hx0 : 0 ≤ gt X (i + 1 + k) := hxk.1
   have hx1 : gt X (i + 1 + k) ≤ 7 := by omega
   clear hxk hx7
   have hvk := rImgTo_vec hP f i hi (rAt_vec hP f) X _ (zeros_vec hP) k hk
   have HV := Lib.hid hvk; clear hvk
   have hcond : (i : Int) + 1 + k < P.orders.length := by omega
   go_wp2
   go_loopw [8, 10] (fun v mm wr => ∃ m : Nat, mm = .int .i64 m ∧ m ≤ (gt X (i + 1 + k)).toNat ∧ Ext w1 wr ∧ Own (w.heap.size + 1) wr v (iter m (fun out => rAt P f (i + 1) out (gt (gt P.conj i) k)) (rImgTo (rAt P f (i + 1)) (gt P.conj i) i X (zeros P.orders.length) k))) (fun _ mm _ => (gt X (i + 1 + k)).toNat - (intOf mm).toNat)
   case atStart => exact ⟨0, rfl, by omega, hg, hO⟩
   case round =>
    clear hg hO
    obtain ⟨m, rfl, hm, hg, hO⟩ := hrel
    have hxw := hxx.ext hg
    obtain ⟨bx, ox, rfl, _, _, hcx⟩ := Ints.at hxw (i + 1 + k) (by rw [hX.1]; omega)
    have hle : X.length ≤ P.orders.length ∧ P.orders.length ≤ X.length := by rw [hX.1]; omega
    have hix : ((i : Int) + 1 + k).toNat = i + 1 + k := by omega
    by_cases hlt2 : (m : Int) < gt X (i + 1 + k)
    ·obtain ⟨vo9, vp9, vc9, _, _, hc0, hc1, hc2, h39⟩ := (hBx.ext hg).at
     obtain ⟨ac, capc, rfl, _, _⟩ := Sl.shape h39.c
     obtain ⟨bc, oc, ac2, capc2, rfl, _, _, hcc, hrc⟩ := Rows3.at h39.c i hic
     obtain ⟨bd, od, ad2, capd2, rfl, _, _, hcd, hid⟩ := Rows2.at hrc k (by omega)
     have hvm : Vec P.orders (iter m (fun out => rAt P f (i + 1) out (gt (gt P.conj i) k)) (rImgTo (rAt P f (i + 1)) (gt P.conj i) i X (zeros P.orders.length) k)) :=
      iter_inv (Vec P.orders) _ (fun y hy => rAt_vec hP f _ _ _ (by omega) hy ((hP.cv i (by omega)).2 k (by omega)).1) _ _ HV.out
     have hcv := ((hP.cv i (by omega)).2 k (by omega)).1
     have hOi := hO.ints (by rw [hvm.1]; omega)
     have HVm := Lib.hid hvm; clear hvm
     have HCv := Lib.hid hcv; clear hcv
     have e1 : ∀ w', Ext wr w' → w'.cell? ⟨w.heap.size, 0, none⟩ = some vo9 := fun w' h => h.cell hc0 (by simp)
     have e2 : ∀ w', Ext wr w' → w'.cell? ⟨w.heap.size, 1, none⟩ = some vp9 := fun w' h => h.cell (by simpa using hc1) (by simp)
     have e3 : ∀ w', Ext wr w' → w'.cell? ⟨w.heap.size, 2, none⟩ = some (.slice (some ⟨bc, oc, none⟩) P.conj.length capc) := fun w' h => h.cell (by simpa using hc2) (by simp)
     have e4 : ∀ w', Ext wr w' → w'.cell? ⟨bc, oc + i, none⟩ = some (.slice (some ⟨bd, od, none⟩) (gt P.conj i).length capc2) := fun w' h => h.cell hcc (by simp)
     have e5 : ∀ w', Ext wr w' → w'.cell? ⟨bd, od + k, none⟩ = some (.slice ad2 (gt (gt P.conj i) k).length capd2) := fun w' h => h.cell hcd (by simp)
     have s1 : IntKind.i64.wrap ((i : Int) + 1 + k - i) = (k : Int) + 1 := by rw [show (i : Int) + 1 + k - i = (k : Int) + 1 by omega]; exact IntWalk.i64_in _ (by omega)
     have s2 : IntKind.i64.wrap (k : Int) = (k : Int) := IntWalk.i64_in _ (by omega)
     have s3 : IntKind.i64.wrap ((i : Int) + 1) = (i : Int) + 1 := IntWalk.i64_in _ (by omega)
     have b1 : (0 : Int) ≤ k := by omega
     have b2 : (k : Int) < (gt P.conj i).length := by omega
     have b3 : (i : Int) < P.conj.length := by omega
     go_wp2
     clear hc0 hc1 hc2 hcc hcd
     go_region_held3 (fun w' => Ext wr w') (first | exact grown_drew _ _ | exact hg6)
      (first | (go_at_call 331; refine Calls.mono (Calls.rel (w0 := wr) (by assumption) (ih _ _ _ _ (i + 1) _ (gt (gt P.conj i) k) Any Any Any (by omega) ⟨_, _, _, rfl, Pres3.ext h39 (by assumption)⟩ (Ints.ext hOi (by assumption)) (Ints.ext hid (by assumption)) HVm.out HCv.out)) ?_; rintro e6 w6 ⟨v6, rfl, hg6, hsz6, hO6⟩))
     clear e1 e2 e3 e4 e5 s1 s2 s3
     go_wp2
     go_roundw
     case rel => exact ⟨m + 1, by go_num, by omega, grown_trans hg hg6, hO6.weak (by have := hg.size; omega)⟩
     case measure => simp [intOf]; omega
    ·have hme : m = (gt X (i + 1 + k)).toNat := by omega
     subst hme
     go_wp2
     go_roundw
     case rel => exact ⟨k + 1, by go_num, by omega, hg, hO⟩
     case measure => simp [intOf]; omega
  ·have hke : k = f := by omega
   subst hke
   go_wp2
   go_ret
   exact ⟨_, rfl, grown_trans hgw hg, hO.weak (by omega)⟩
end Go.Proofs.YtmjkoejegfjbbaaGreat
namespace Go.Proofs.YtmjkoejegfjbbaaGreat
open Go.RowKit
def left_ (o x : Int) : Nat := if x = 0 then 0 else (o - x).toNat
def invTo (P : Pr) (a : List Int) : Nat → List Int × List Int
 | 0 => (a, List.replicate a.length 0)
 | k + 1 =>
  let s := invTo P a k
  let m := left_ (gt P.orders k) (gt s.1 k)
  (iter m (fun e => tg P e k) s.1, iter m (fun e => tg P e k) s.2)
def iInv (P : Pr) (a : List Int) : List Int := (invTo P a a.length).2
theorem iter_tg {P : Pr} (hP : Valid P) (e : List Int) (k : Nat) (hk : k < P.orders.length) (he : Vec P.orders e) (h0 : gt e k ≠ 0) (s : Nat) (hs : s ≤ left_ (gt P.orders k) (gt e k)) :
  Vec P.orders (iter s (fun e => tg P e k) e) ∧ gt (iter s (fun e => tg P e k) e) k = if s = left_ (gt P.orders k) (gt e k) then 0 else gt e k + s := by
 have hx := he.2 k hk
 have hl : left_ (gt P.orders k) (gt e k) = (gt P.orders k - gt e k).toNat := by unfold left_; rw [if_neg h0]
 rw [hl] at hs ⊢
 induction s with
 | zero => exact ⟨he, by rw [if_neg (by omega)]; simp [iter]⟩
 | succ s ih =>
  obtain ⟨h1, h2⟩ := ih (by omega)
  refine ⟨tg_vec hP _ k h1 hk, ?_⟩
  show gt (tg P (iter s (fun e => tg P e k) e) k) k = _
  have h3 := (tgen_entries hP P.orders.length (iter s (fun e => tg P e k) e) k h1 hk (by omega)).2
  rw [if_neg (by omega)] at h2
  have h4 : gt (tg P (iter s (fun e => tg P e k) e) k) k = if gt (iter s (fun e => tg P e k) e) k + 1 = gt P.orders k then 0 else gt (iter s (fun e => tg P e k) e) k + 1 := h3
  rw [h4, h2]
  by_cases hc : gt e k + s + 1 = gt P.orders k
  ·rw [if_pos hc, if_pos (by omega)]
  ·rw [if_neg hc, if_neg (by omega)]; omega
theorem invTo_vec {P : Pr} (hP : Valid P) (a : List Int) (ha : Vec P.orders a) (k : Nat) (hk : k ≤ P.orders.length) : Vec P.orders (invTo P a k).1 ∧ Vec P.orders (invTo P a k).2 := by
 induction k with
 | zero => exact ⟨ha, zeros_vec' hP ha⟩
 | succ k ih =>
  obtain ⟨h1, h2⟩ := ih (by omega)
  exact ⟨iter_inv (Vec P.orders) _ (fun y hy => tg_vec hP y k hy (by omega)) _ _ h1, iter_inv (Vec P.orders) _ (fun y hy => tg_vec hP y k hy (by omega)) _ _ h2⟩
set_option maxHeartbeats 1000000 in
theorem invert_ok (P : Pr) (hP : Valid P) (w : World) (p a : Value) (A : List Int) (Sp Sa : Nat → Prop) (hp : PresP Sp w p P) (ha : Ints Sa w a A) (hA : Vec P.orders A) :
  Calls Tryz.prog 203 #[p, a] w (Ret w fun w' v => Own w.heap.size w' v (iInv P A)) := by
 have hn6 := hP.n6
 have hlA : A.length ≤ P.orders.length ∧ P.orders.length ≤ A.length := by rw [hA.1]; omega
 obtain ⟨aa, capa, rfl, _, _⟩ := ha.shape
 go_enter Tryz.func203, Tryz.ntmps203
 go_wp2_with fail
 refine Calls.mono (clone_ok w _ A Sa ha (by omega)) ?_
 rintro e1 w1 ⟨r, rfl, hg1, hR⟩
 have hRi := hR.ints (by omega)
 obtain ⟨ar, capr, rfl, _, _⟩ := hRi.shape
 go_wp2_with (at_make; refine wp_make_ints rfl _ _ rfl w1.heap.size A.length w1.heap.size rfl _ rfl rfl rfl (by omega) (Nat.le_refl _) ?_; intro w2 ho2 hg2 _)
 generalize Value.slice (some ⟨w1.heap.size, 0, none⟩) A.length A.length = t at *
 have hR2 := hR.ext0 hg2
 have hRlt := hR.lt
 have HRL := Lib.hid hRlt
 clear hRi hR hRlt
 have hw2 : Ext w w2 := grown_trans hg1 hg2
 have hw1 := hg1.size
 go_loopw [15] (fun i wr => ∃ k : Nat, i = .int .i64 k ∧ k ≤ A.length ∧ Ext w wr ∧ Own w.heap.size wr (.slice ar A.length capr) (invTo P A k).1 ∧ Own w1.heap.size wr t (invTo P A k).2) (fun i _ => A.length - (intOf i).toNat)
 case atStart => exact ⟨0, rfl, by omega, hw2, hR2, ho2⟩
 case round =>
  clear hR2 ho2
  obtain ⟨k, rfl, hk, hg, hO, hT⟩ := hrel
  obtain ⟨hv1, hv2⟩ := invTo_vec hP A hA k (by omega)
  have HV1 := Lib.hid hv1; have HV2 := Lib.hid hv2
  by_cases hlt : k < A.length
  ·have hx := hv1.2 k (by omega)
   have hok := hP.ord7 k (by omega)
   obtain ⟨g, capg, hfm, _, _⟩ := hO.form (by rw [hv1.1]; omega)
   have hlen : (invTo P A k).1.length = A.length := by rw [hv1.1, hA.1]
   rw [hlen] at hfm
   have hsucc : invTo P A (k + 1) = (iter (left_ (gt P.orders k) (gt (invTo P A k).1 k)) (fun e => tg P e k) (invTo P A k).1, iter (left_ (gt P.orders k) (gt (invTo P A k).1 k)) (fun e => tg P e k) (invTo P A k).2) := rfl
   have HSC := Lib.hid hsucc; clear hsucc
   obtain ⟨rfl, hcg⟩ : ar = some ⟨g, 0, none⟩ ∧ capr = capg := by cases hfm; exact ⟨rfl, rfl⟩
   clear hfm hcg hv1 hv2
   have hbt := hT.lt
   have hgl : g < w1.heap.size := (HRL.out g rfl).2
   have HBT := Lib.hid hbt; clear hbt
   generalize hr0 : (invTo P A k).1 = R at *
   generalize ht0 : (invTo P A k).2 = T at *
   have Hr0 := Lib.hid hr0; have Ht0 := Lib.hid ht0; clear hr0 ht0
   have hx0 : 0 ≤ gt R k := hx.1
   have hx1 : gt R k < gt P.orders k := hx.2
   have hok1 : gt P.orders k ≤ 7 := hok.2
   have HLEN := Lib.hid hlen; clear hlen hx hok
   go_wp2
   go_loopg [21] (left_ (gt P.orders k) (gt R k)) (fun gk u wr => ∃ s : Nat, gk + s = left_ (gt P.orders k) (gt R k) ∧ Ext w wr ∧ Own w.heap.size wr (.slice (some ⟨g, 0, none⟩) A.length capr) (iter s (fun e => tg P e k) R) ∧ Own w1.heap.size wr t (iter s (fun e => tg P e k) T))
   case atStart => exact ⟨0, by omega, hg, hO, hT⟩
   case round =>
    clear hg hO hT
    obtain ⟨s, hs, hg, hO, hT⟩ := hrel
    have hRs : Vec P.orders (iter s (fun e => tg P e k) R) ∧ Vec P.orders (iter s (fun e => tg P e k) T) :=
     ⟨iter_inv (Vec P.orders) _ (fun y hy => tg_vec hP y k hy (by omega)) _ _ HV1.out, iter_inv (Vec P.orders) _ (fun y hy => tg_vec hP y k hy (by omega)) _ _ HV2.out⟩
    have HRs := Lib.hid hRs
    have hc := hO.cell k (by rw [hRs.1.1]; omega)
    clear hRs
    by_cases hm : s = left_ (gt P.orders k) (gt R k)
    ·have hz : gt (iter s (fun e => tg P e k) R) k = 0 := by
      by_cases h0 : gt R k = 0
      ·have : s = 0 := by rw [hm]; unfold left_; rw [if_pos h0]
       rw [this]; exact h0
      ·rw [(iter_tg hP R k (by omega) HV1.out h0 s (by omega)).2, if_pos hm]
     rw [hz] at hc
     have hO2 : Own w.heap.size wr (.slice (some ⟨g, 0, none⟩) A.length capr) (invTo P A (k + 1)).1 := by rw [HSC.out, ← hm]; exact hO
     have hT2 : Own w1.heap.size wr t (invTo P A (k + 1)).2 := by rw [HSC.out, ← hm]; exact hT
     have HO2 := Lib.hid hO2; have HT2 := Lib.hid hT2; clear hO2 hT2 hO hT hm hz
     go_wp2
     go_roundw
     case rel => exact ⟨k + 1, by go_num, by omega, hg, HO2.out, HT2.out⟩
     case measure => simp [intOf]; omega
    ·have hz : gt (iter s (fun e => tg P e k) R) k ≠ 0 := by
      by_cases h0 : gt R k = 0
      ·exfalso; apply hm
       have : left_ (gt P.orders k) (gt R k) = 0 := by unfold left_; rw [if_pos h0]
       omega
      ·rw [(iter_tg hP R k (by omega) HV1.out h0 s (by omega)).2, if_neg hm]; omega
     have hzb : (gt (iter s (fun e => tg P e k) R) k != 0) = true := by simpa using hz
     have HM := Lib.hid hm; clear hm hz
     go_wp2_with fail
     refine Calls.mono (timesGenerator_ok P hP w.heap.size wr p _ _ k (hp.mono (off_of hO (Nat.le_refl _) hg)) hO HRs.out.1 (by omega)) ?_
     rintro e3 w3 ⟨v3, rfl, hg3, rfl, hO3⟩
     have hgx := mut_ext hg hO (Nat.le_refl _) hg3
     have hT3 : Own w1.heap.size w3 t (iter s (fun e => tg P e k) T) := hT.ext hg3 (by
      cases hb : t.ownBlock with
      | none => exact .inl rfl
      | some q => exact .inr (fun h => by have h : some q = some g := h; cases h; have := (hT.lt _ hb).1; omega))
     go_wp2_with fail
     refine Calls.mono (timesGenerator_ok P hP w1.heap.size w3 p t _ k (hp.mono (off_of hT3 hw1 hgx)) hT3 HRs.out.2 (by omega)) ?_
     rintro e4 w4 ⟨v4, rfl, hg4, rfl, hT4⟩
     have hgy := mut_ext hgx hT3 hw1 hg4
     have hO4 := hO3.ext hg4 (by
      cases hb : t.ownBlock with
      | none => exact .inr (by simp [Value.ownBlock])
      | some q => exact .inr (fun h => by have h : some g = some q := h; cases h; have := (hT3.lt _ hb).1; omega))
     clear hc hzb hO hT hO3 hT3
     go_wp2
     go_roundg (gk - 1)
     case measure => have := HM.out; omega
     case rel => exact ⟨s + 1, by have := HM.out; omega, hgy, hO4, hT4⟩
  ·have hke : k = A.length := by omega
   subst hke
   go_wp2
   go_ret
   exact ⟨_, rfl, hg, hT.weak hw1⟩
end Go.Proofs.YtmjkoejegfjbbaaGreat
namespace Go.Proofs.YtmjkoejegfjbbaaGreat
open Go.RowKit
theorem iInv_vec {P : Pr} (hP : Valid P) (a : List Int) (ha : Vec P.orders a) : Vec P.orders (iInv P a) := (invTo_vec hP a ha a.length (by rw [ha.1]; omega)).2
def iConj (P : Pr) (a b : List Int) : List Int := tv P (iInv P b) (tv P a b)
set_option maxHeartbeats 400000 in
theorem conjugate_ok (P : Pr) (hP : Valid P) (w : World) (p a b : Value) (A B : List Int) (Sp Sa Sb : Nat → Prop) (hp : PresP Sp w p P) (ha : Ints Sa w a A) (hb : Ints Sb w b B) (hA : Vec P.orders A) (hB : Vec P.orders B) :
  Calls Tryz.prog 303 #[p, a, b] w (Ret w fun w' v => Own w.heap.size w' v (iConj P A B)) := by
 have hn6 := hP.n6
 have hl1 : (iInv P B).length ≤ 6 := by rw [(iInv_vec hP B hB).1]; omega
 have hl2 : (tv P A B).length ≤ 6 := by rw [(tv_vec hP A B hA hB).1]; omega
 go_enter Tryz.func303, Tryz.ntmps303
 go_wp2_with fail
 refine Calls.mono (invert_ok P hP w p b B Sp Sb hp hb hB) ?_
 rintro e1 w1 ⟨r, rfl, hg1, hR⟩
 go_wp2_with fail
 refine Calls.mono (multiply_ok P hP w1 p a b A B Sp Sa Sb (hp.ext hg1) (ha.ext hg1) (hb.ext hg1) hA hB) ?_
 rintro e2 w2 ⟨m, rfl, hg2, hM⟩
 go_wp2_with fail
 refine Calls.mono (multiply_ok P hP w2 p r m _ _ Sp Any Any (hp.ext (grown_trans hg1 hg2)) ((hR.ext0 hg2).ints (by omega)) (hM.ints (by omega)) (iInv_vec hP B hB) (tv_vec hP A B hA hB)) ?_
 rintro e3 w3 ⟨q, rfl, hg3, hQ⟩
 go_wp2
 go_ret
 exact ⟨_, rfl, grown_trans (grown_trans hg1 hg2) hg3, hQ.weak (by have := hg1.size; have := hg2.size; omega)⟩
def iImg (P : Pr) (i : Nat) (x : List Int) : List Int := rImgTo (tv P) (gt P.conj i) i x (List.replicate x.length 0) (gt P.conj i).length
theorem iImgTo_vec {P : Pr} (hP : Valid P) (i : Nat) (hi : i < P.orders.length) (x out : List Int) (ho : Vec P.orders out) (k : Nat) (hk : k ≤ (gt P.conj i).length) :
  Vec P.orders (rImgTo (tv P) (gt P.conj i) i x out k) := by
 have hc := hP.cv i hi
 induction k with
 | zero => exact ho
 | succ k ih =>
  unfold rImgTo
  exact iter_inv (Vec P.orders) _ (fun y hy => tv_vec hP _ _ hy (hc.2 k (by omega)).1) _ _ (ih (by omega))
set_option maxHeartbeats 1000000 in
theorem imageBy_ok (P : Pr) (hP : Valid P) (w : World) (p x : Value) (i : Nat) (X : List Int) (Sp Sx : Nat → Prop) (hi : i < P.orders.length) (hp : PresP Sp w p P) (hx : Ints Sx w x X) (hX : Vec P.orders X) :
  Calls Tryz.prog 370 #[p, .int .i64 i, x] w (Ret w fun w' v => Own w.heap.size w' v (iImg P i X)) := by
 have hn6 := hP.n6
 have hlX : X.length ≤ P.orders.length ∧ P.orders.length ≤ X.length := by rw [hX.1]; omega
 obtain ⟨pb, po, rfl⟩ := hp.shape
 obtain ⟨ax, capx, rfl, _, _⟩ := hx.shape
 have hic : i < P.conj.length := by rw [hP.cl]; omega
 have hcl := (hP.cv i hi).1
 have hlc : (gt P.conj i).length + i + 1 ≤ P.orders.length := by omega
 have HCL := Lib.hid hcl; clear hcl
 obtain ⟨ac, capc, hcc0, hci0⟩ := hp.conjAt
 obtain ⟨bc, oc, ac2, capc2, rfl, _, _, hc20, hi20⟩ := Rows3.at hci0 i hic
 go_enter Tryz.func370, Tryz.ntmps370
 go_wp2_with (at_make; refine wp_make_ints rfl _ _ rfl w.heap.size X.length w.heap.size rfl _ rfl rfl rfl (by omega) (Nat.le_refl _) ?_; intro w1 ho1 hg1 _; have hcc := hg1.cell hcc0 (by simp); have hc2 := hg1.cell hc20 (by simp))
 clear hcc hc2 hci0 hcc0 hc20
 generalize Value.slice (some ⟨w.heap.size, 0, none⟩) X.length X.length = t at *
 go_loopw [21] (fun ii wr => ∃ k : Nat, ii = .int .i64 k ∧ k ≤ (gt P.conj i).length ∧ Ext w wr ∧ Own w.heap.size wr t (rImgTo (tv P) (gt P.conj i) i X (List.replicate X.length 0) k)) (fun ii _ => (gt P.conj i).length - (intOf ii).toNat)
 case atStart => exact ⟨0, rfl, by omega, hg1, ho1⟩
 case round =>
  clear ho1
  obtain ⟨k, rfl, hk, hgw, hO⟩ := hrel
  by_cases hlt : k < (gt P.conj i).length
  ·have hvk := iImgTo_vec hP i hi X _ (zeros_vec' hP hX) k hk
   have HV := Lib.hid hvk; clear hvk
   have hcv := ((hP.cv i hi).2 k (by omega)).1
   have HCV := Lib.hid hcv; clear hcv
   have hix : ((i : Int) + 1 + k).toNat = i + 1 + k := by omega
   have hbx : (i : Int) + 1 + k < X.length := by omega
   obtain ⟨bx, ox, rfl, _, _, hcx⟩ := Ints.at (hx.ext hgw) (i + 1 + k) (by omega)
   have hxk := hX.2 (i + 1 + k) (by omega)
   have hx7 := hP.ord7 (i + 1 + k) (by omega)
   have hx0 : 0 ≤ gt X (i + 1 + k) := hxk.1
   have hx1 : gt X (i + 1 + k) ≤ 7 := by omega
   clear hxk hx7
   obtain ⟨bd, od, ad2, capd2, rfl, _, _, hcd0, hid⟩ := Rows2.at hi20 k hlt
   have hcd := hgw.cell hcd0 (by simp)
   go_wp2
   go_loopw [33] (fun mm wr2 => ∃ m : Nat, mm = .int .i64 m ∧ m ≤ (gt X (i + 1 + k)).toNat ∧ Ext w wr2 ∧ Own w.heap.size wr2 t (iter m (fun out => tv P out (gt (gt P.conj i) k)) (rImgTo (tv P) (gt P.conj i) i X (List.replicate X.length 0) k))) (fun mm _ => (gt X (i + 1 + k)).toNat - (intOf mm).toNat)
   case atStart => exact ⟨0, rfl, by omega, hgw, hO⟩
   case round =>
    clear hgw hO hcx hcd hcd0
    obtain ⟨m, rfl, hm, hgw, hO⟩ := hrel
    by_cases hlt2 : (m : Int) < gt X (i + 1 + k)
    ·have hvm : Vec P.orders (iter m (fun out => tv P out (gt (gt P.conj i) k)) (rImgTo (tv P) (gt P.conj i) i X (List.replicate X.length 0) k)) := iter_inv (Vec P.orders) _ (fun y hy => tv_vec hP y _ hy HCV.out) _ _ HV.out
     have HVM := Lib.hid hvm; clear hvm
     go_wp2_with fail
     refine Calls.mono (timesVector_ok P hP w.heap.size wr _ t _ _ _ (hp.mono (off_of hO (Nat.le_refl _) hgw)) hO HVM.out (hid.mono (off_of hO (Nat.le_refl _) hgw)) HCV.out) ?_
     rintro e3 w3 ⟨v3, rfl, hg3, rfl, hO3⟩
     have hgx := mut_ext hgw hO (Nat.le_refl _) hg3
     go_wp2
     go_roundw
     case rel => exact ⟨m + 1, by go_num, by omega, hgx, hO3⟩
     case measure => simp [intOf]; omega
    ·have hme : m = (gt X (i + 1 + k)).toNat := by omega
     subst hme
     go_wp2
     go_roundw
     case rel => exact ⟨k + 1, by go_num, by omega, hgw, hO⟩
     case measure => simp [intOf]; omega
  ·have hke : k = (gt P.conj i).length := by omega
   subst hke
   go_wp2
   go_ret
   exact ⟨_, rfl, hgw, hO⟩
end Go.Proofs.YtmjkoejegfjbbaaGreat
