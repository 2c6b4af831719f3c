/-
  impl.timesGenerator and impl.timesVector compute tgen and tvec in place.
-/
import Derived.Test.YtdfjgpioaomceaaLib1
namespace Go.Proofs.Ytdfjgpioaomceaa
open Go.RowKit

def TgenOk (P : Pr) (fuel : Nat) : Prop :=
  ∀ (base : Nat) (w : World) (p e : Value) (E : List Int) (j : Nat), PresP (Off e.ownBlock) w p P → Own base w e E → Vec P.orders E → j < P.orders.length → P.orders.length ≤ fuel + j →
    Calls Try.prog 78 #[p, e, .int .i64 j] w (Mut w e.ownBlock fun w' v => v = .tuple #[] ∧ Own base w' e (tgen P fuel E j))

set_option maxHeartbeats 1000000 in
theorem timesVector_of (P : Pr) (hP : Valid P) (fuel : Nat) (ih : TgenOk P fuel) (base : Nat) (w : World) (p e f : Value) (E F : List Int) (hp : PresP (Off e.ownBlock) w p P) (hE : Own base w e E)
    (hv : Vec P.orders E) (hf : Ints (Off e.ownBlock) w f F) (hF : Vec P.orders F) (hz : ∀ j, j < P.orders.length → gt F j ≠ 0 → P.orders.length ≤ fuel + j) :
    Calls Try.prog 77 #[p, e, f] w (Mut w e.ownBlock fun w' v => v = .tuple #[] ∧ Own base w' e (tvec (tgen P fuel) E F)) := by
  have hlF : F.length ≤ P.orders.length := by rw [hF.1]; omega
  obtain ⟨a, cap, rfl, hl, hcf⟩ := hf
  go_enter Try.func77, Try.ntmps77
  go_wp2
  go_loopw [10] (fun i wr => ∃ k : Nat, i = .int .i64 k ∧ k ≤ F.length ∧ w.grownBy wr e.ownBlock ∧ Own base wr e (tvecTo (tgen P fuel) F E k)) (fun i _ => F.length - (intOf i).toNat)
  case atStart => exact ⟨0, rfl, by omega, grown_refl _ _, hE⟩
  case round =>
    obtain ⟨k, rfl, hk, hg, hO⟩ := hrel
    by_cases hlt : k < F.length
    · obtain ⟨b, off, u, rfl, hS, hb, hc, hu⟩ := hcf k hlt
      have hc' : wr.cell? ⟨b, off + k, none⟩ = some u := hg.cell hc (fun h => hS h.symm)
      have hu : u = .int .i64 (gt F k) := hu
      subst hu
      have hx := hF.2 k (by omega)
      have hx0 : 0 ≤ gt F k := hx.1
      have hx7 := hP.ord7 k (by omega)
      have hx1 : gt F k ≤ 7 := by omega
      have hvk : Vec P.orders (tvecTo (tgen P fuel) F E k) := tvecTo_vec (fun e j he hj h0 => tgen_vec hP fuel e j he hj (hz j hj h0)) hv k (by omega)
      clear hx hx7 hcf hc
      go_wp2
      go_loopw [16] (fun i wr => ∃ m : Nat, i = .int .i64 m ∧ m ≤ (gt F k).toNat ∧ w.grownBy wr e.ownBlock ∧ Own base wr e (iter m (fun e => tgen P fuel e k) (tvecTo (tgen P fuel) F E k))) (fun i _ => (gt F k).toNat - (intOf i).toNat)
      case atStart => exact ⟨0, rfl, by omega, hg, hO⟩
      case round =>
        clear hg hO hc'
        obtain ⟨m, rfl, hm, hg, hO⟩ := hrel
        by_cases hlt2 : (m : Int) < gt F k
        · have hkf : P.orders.length ≤ fuel + k := hz k (by omega) (by omega)
          have hvm : Vec P.orders (iter m (fun e => tgen P fuel e k) (tvecTo (tgen P fuel) F E k)) := iter_inv (Vec P.orders) _ (fun x hx => tgen_vec hP fuel x k hx (by omega) hkf) _ _ hvk
          go_wp2_with (go_at_call 78; go_must (refine (ih base _ p e _ k (hp.mono (frame_of hg fun k h _ => ⟨h, h⟩)) hO hvm (by omega) hkf).mono ?_); rintro e1 w1 ⟨v1, rfl, hg1, rfl, hO1⟩)
          go_roundw
          case rel => exact ⟨m + 1, by go_num, by omega, grown_trans hg hg1, hO1⟩
          case measure => simp [intOf]; omega
        · have hme : m = (gt F k).toNat := by omega
          have HO : Hid (Own base wr e (tvecTo (tgen P fuel) F E (k + 1))) := by rw [hme] at hO; exact hO
          clear hO hme
          go_wp2
          go_roundw
          case rel => exact ⟨k + 1, by go_num, by omega, hg, HO.out⟩
          case measure => simp [intOf]; omega
    · have hke : k = F.length := by omega
      have HO : Hid (Own base wr e (tvec (tgen P fuel) E F)) := by rw [hke] at hO; exact hO
      clear hO hke
      go_wp2
      go_end0
      exact ⟨_, rfl, hg, rfl, HO.out⟩

set_option maxHeartbeats 1000000 in
theorem timesGenerator_of (P : Pr) (hP : Valid P) (fuel : Nat) (ih : TgenOk P fuel) : TgenOk P (fuel + 1) := by
  intro base w p e E j hp hE hv hj hf
  have hlE : E.length ≤ P.orders.length ∧ P.orders.length ≤ E.length := by rw [hv.1]; omega
  have hn6 := hP.n6
  obtain ⟨g, cap, rfl, hgb, hgs⟩ := hE.form (by omega)
  obtain ⟨pb, po, rfl⟩ := hp.shape
  have hs := fun w => run_tail w (some ⟨g, 0, none⟩) E.length cap ((j : Int) + 1) (by omega) (by omega)
  go_enter Try.func78, Try.ntmps78
  have htl : Ints Any w (subSl (.slice (some ⟨g, 0, none⟩) E.length cap) (j + 1) E.length) (E.drop (j + 1)) := by
    have := subSl_ints (ints_of_own hE (by omega) (S := Any) (fun _ _ => trivial)) (j + 1) E.length (by omega) (by omega)
    rwa [List.take_length] at this
  have hxj := hv.2 j hj
  have hoj := hP.ord7 j hj
  go_wp2_with fail
  refine (clone_ok w _ (E.drop (j + 1)) Any htl (by simp; omega)).mono ?_
  rintro e1 w1 ⟨r, rfl, hg1, hR⟩
  clear htl hs
  have hRl : (E.drop (j + 1)).length + j + 1 = E.length := by simp; omega
  have hRv : ∀ k, k < (E.drop (j + 1)).length → 0 ≤ gt (E.drop (j + 1)) k ∧ gt (E.drop (j + 1)) k ≤ 7 := by
    intro k hk
    have h1 := hv.2 (j + 1 + k) (by omega)
    have h2 := hP.ord7 (j + 1 + k) (by omega)
    have h3 : gt (E.drop (j + 1)) k = gt E (j + 1 + k) := by simp only [gt, List.getD_eq_getElem?_getD, List.getElem?_drop]
    rw [h3]; omega
  have hRi : Ints (From w.heap.size) w1 r (E.drop (j + 1)) := ints_of_own hR (by omega) (fun k hk => (hR.lt k hk).1)
  generalize hRe : E.drop (j + 1) = R at *
  obtain ⟨ar, capr, rfl, _, _⟩ := hRi.shape
  have hRl1 : R.length + j + 1 ≤ E.length ∧ E.length ≤ R.length + j + 1 := by omega
  have HR := Lib.hid hRe; clear hRe hRl
  have HRv := Lib.hid hRv; clear hRv
  go_wp2
  go_loopw [17] (fun i wr => ∃ k : Nat, i = .int .i64 k ∧ k ≤ R.length ∧ w1.grownBy wr (some g) ∧ Own base wr (.slice (some ⟨g, 0, none⟩) E.length cap) (zeroed E j k)) (fun i _ => R.length - (intOf i).toNat)
  case atStart => exact ⟨0, rfl, by omega, grown_refl _ _, by rw [zeroed_zero]; exact hE.ext hg1 (.inr (by simp [Value.ownBlock]))⟩
  case round =>
    obtain ⟨k, rfl, hk, hg, hO⟩ := hrel
    by_cases hlt : k < R.length
    · have hlz := length_zeroed E j k (by omega)
      have hc := hO.cell (j + 1 + k) (by omega)
      have hfz := hO.frozen (j + 1 + k)
      have HL := Lib.hid hlz; clear hlz
      go_wp2
      go_roundw
      case rel =>
        obtain ⟨h1, h2⟩ := hO.store (j + 1 + k) 0
        exact ⟨k + 1, by go_num, by omega, grown_trans hg h2, by rw [zeroed_succ _ _ _ (by omega)]; exact h1⟩
      case measure => simp [intOf]; omega
    · have hke : k = R.length := by omega
      subst hke
      have hlz := length_zeroed E j R.length (by omega)
      have hzj : gt (zeroed E j R.length) j = gt E j := by rw [gt_zeroed _ _ _ _ (by omega), if_neg (by omega)]
      have hc := hO.cell j (by omega)
      rw [hzj] at hc
      have hfz := hO.frozen j
      have HL := Lib.hid hlz; clear hlz
      have hs1 := hO.store j (gt E j + 1)
      clear hzj
      go_wp2
      generalize hW : wr.setCell ⟨g, j, none⟩ (.int .i64 (gt E j + 1)) = W2 at hs1 ⊢
      obtain ⟨hO2, hg2⟩ := hs1
      clear hW hc hfz
      have hgw : w.grownBy W2 (some g) := grown_trans (grown_trans (grown_of_ext _ hg1) hg) hg2
      obtain ⟨ao, capo, hc0, hqo⟩ := (hp.mono (frame_of hgw fun k h _ => ⟨h, h⟩)).ordAt
      obtain ⟨bo, oo, rfl, _, _, hco⟩ := Ints.at hqo j hj
      have hlz1 : ((zeroed E j R.length).set j (gt E j + 1)).length = E.length := by rw [List.length_set]; exact HL.out
      have hce := hO2.cell j (by omega)
      rw [gt_set_eq _ _ _ (by have := HL.out; omega)] at hce
      have hfe := hO2.frozen j
      have hR2 : Ints (Off (some g)) W2 (.slice ar R.length capr) R := (hRi.sub (S' := Off (some g)) (fun k hk _ => by unfold Off; intro he; cases he; have : w.heap.size ≤ g := hk; omega)).mono (frame_of (grown_trans hg hg2) fun k h _ => ⟨h, h⟩)
      have hv1 : Vec P.orders (zeroed E j R.length) := hv.zeroed j R.length (by omega)
      have HV1 := Lib.hid hv1; clear hv1
      have HL1 := Lib.hid hlz1; clear hlz1
      clear hg hg2 hO hR hRi hg1 hk hlt hqo
      have hcl := hP.cv j hj
      have hclen : R.length ≤ (gt P.conj j).length := by rw [hcl.1]; omega
      have hjc : j < P.conj.length := by rw [hP.cl]; exact hj
      have hcz : ∀ k, k < R.length → Vec P.orders (gt (gt P.conj j) k) ∧ (∀ i, i < P.orders.length → gt (gt (gt P.conj j) k) i ≠ 0 → P.orders.length ≤ fuel + i) := by
        intro k hk
        obtain ⟨h1, h2⟩ := hcl.2 k (by omega)
        refine ⟨h1, fun i hi h0 => ?_⟩
        have : ¬ i ≤ j := fun h => h0 (h2 i h)
        omega
      have HCZ := Lib.hid hcz; clear hcz hcl
      have hfin : ∀ E2, E2 = (if gt E j + 1 = gt P.orders j then tvec (tgen P fuel) (((zeroed E j R.length).set j (gt E j + 1)).set j 0) (gt P.powers j) else (zeroed E j R.length).set j (gt E j + 1)) →
          tgen P (fuel + 1) E j = tconjTo (tgen P fuel) (gt P.conj j) R E2 R.length := by
        intro E2 h2
        have hr : R = E.drop (j + 1) := HR.out.symm
        rw [h2, hr]; rfl
      have HF := Lib.hid hfin; clear hfin
      by_cases hcar : gt E j + 1 = gt P.orders j
      case' pos =>
        have hb : (gt E j + 1 == gt P.orders j) = true := by simp [hcar]
        obtain ⟨E2, hE2⟩ : ∃ E2, E2 = tvec (tgen P fuel) (((zeroed E j R.length).set j (gt E j + 1)).set j 0) (gt P.powers j) := ⟨_, rfl⟩
        have HF2 := Lib.hid (HF.out E2 (by rw [if_pos hcar]; exact hE2)); clear HF
        have hv4 : Vec P.orders (((zeroed E j R.length).set j (gt E j + 1)).set j 0) := by rw [List.set_set]; exact HV1.out.set j 0 ⟨by omega, fun _ => by omega⟩
        have hpv := hP.pv j hj
        have hzp : ∀ i, i < P.orders.length → gt (gt P.powers j) i ≠ 0 → P.orders.length ≤ fuel + i := by
          intro i hi h0
          have : ¬ i ≤ j := fun h => h0 (hpv.2 i h)
          omega
        have hv5 : Vec P.orders E2 := by
          rw [hE2]
          exact tvec_vec hpv.1 (fun e i he hi h0 => tgen_vec hP fuel e i he hi (hzp i hi h0)) hv4
        have HE2 := Lib.hid hE2; clear hE2
        have HC := Lib.hid hcar; clear hcar
        have HZP := Lib.hid hzp; clear hzp
        have HPV := Lib.hid hpv.1; clear hpv
        go_quiet (fail)
        rename_i nq _
        have hO3 : Own base (W2.drewN nq) (.slice (some ⟨g, 0, none⟩) E.length cap) ((zeroed E j R.length).set j (gt E j + 1)) := hO2
        have hgw3 : w.grownBy (W2.drewN nq) (some g) := grown_trans hgw (grown_drewN _ _ _)
        have hR3 : Ints (Off (some g)) (W2.drewN nq) (.slice ar R.length capr) R := hR2.mono (frame_of (grown_drewN _ _ (some g)) fun k h _ => ⟨h, h⟩)
        have hce3 : (W2.drewN nq).cell? ⟨g, j, none⟩ = some (.int .i64 (gt E j + 1)) := hce
        have hfe3 : (W2.drewN nq).frozen? ⟨g, j, none⟩ = false := hfe
        clear hco hce hfe hc0 hO2 hR2 hgw
        generalize W2.drewN nq = W3 at *
        obtain ⟨hO4, hg4⟩ := hO3.store j 0
        have hgw4 : w.grownBy (W3.setCell ⟨g, j, none⟩ (.int .i64 0)) (some g) := grown_trans hgw3 hg4
        have hp4 : PresP (Off (some g)) (W3.setCell ⟨g, j, none⟩ (.int .i64 0)) (.pointer (some ⟨pb, po, none⟩)) P := hp.mono (frame_of hgw4 fun k h _ => ⟨h, h⟩)
        obtain ⟨ap, capp, hpc, hpr⟩ := hp4.powAt
        obtain ⟨bp, op, ar2, capr2, rfl, _, _, hprc, hpri⟩ := Rows2.at hpr j (by rw [hP.pl]; exact hj)
        have hjp : j < P.powers.length := by rw [hP.pl]; exact hj
        go_wp2_with fail
        refine Calls.mono (timesVector_of P hP fuel ih base _ _ _ _ _ (gt P.powers j) ?_ ?_ hv4 ?_ HPV.out HZP.out) ?_
        · exact hp4
        · exact hO4
        · exact hpri
        rintro e5 W5 ⟨v5, rfl, hg5, rfl, hO5⟩
        rw [← HE2.out] at hO5
        have hgw5 : w.grownBy W5 (some g) := grown_trans hgw4 hg5
        have hR5 : Ints (Off (some g)) W5 (.slice ar R.length capr) R := hR3.mono (frame_of (grown_trans hg4 hg5) fun k h _ => ⟨h, h⟩)
        clear hce3 hfe3 hO3 hR3 hgw3 hp4 hpc hpr hprc hpri hO4 hg4 hgw4 hg5
        go_wp2
      case' neg =>
        have hb : (gt E j + 1 == gt P.orders j) = false := by simp [hcar]
        obtain ⟨E2, hE2⟩ : ∃ E2, E2 = (zeroed E j R.length).set j (gt E j + 1) := ⟨_, rfl⟩
        have HF2 := Lib.hid (HF.out E2 (by rw [if_neg hcar]; exact hE2)); clear HF
        have hv5 : Vec P.orders E2 := by rw [hE2]; exact HV1.out.set j _ ⟨by omega, fun _ => by omega⟩
        rw [← hE2] at hO2
        have HC := Lib.hid hcar; clear hcar hE2
        go_quiet (fail)
        rename_i nq _
        have hgw5 : w.grownBy (W2.drewN nq) (some g) := grown_trans hgw (grown_drewN _ _ _)
        have hO5 : Own base (W2.drewN nq) (.slice (some ⟨g, 0, none⟩) E.length cap) E2 := hO2
        have hR5 : Ints (Off (some g)) (W2.drewN nq) (.slice ar R.length capr) R := hR2.mono (frame_of (grown_drewN _ _ (some g)) fun k h _ => ⟨h, h⟩)
        go_wp2
        clear hco hce hfe hc0 hO2 hR2 hgw
        generalize W2.drewN nq = W5 at *
      all_goals
        go_loopw [60] (fun i wr => ∃ k : Nat, i = .int .i64 k ∧ k ≤ R.length ∧ W5.grownBy wr (some g) ∧ Own base wr (.slice (some ⟨g, 0, none⟩) E.length cap) (tconjTo (tgen P fuel) (gt P.conj j) R E2 k) ∧ Vec P.orders (tconjTo (tgen P fuel) (gt P.conj j) R E2 k)) (fun i _ => R.length - (intOf i).toNat)
        case atStart => exact ⟨0, rfl, by omega, grown_refl _ _, hO5, hv5⟩
        case round =>
          obtain ⟨k, rfl, hk, hg, hO, hvk⟩ := hrel
          by_cases hlt : k < R.length
          · have HCk := Lib.hid (HCZ.out k hlt); clear HCZ
            have hRk := HRv.out k hlt
            have hx0 : 0 ≤ gt R k := hRk.1
            have hx7 : gt R k ≤ 7 := hRk.2
            obtain ⟨br, or, rfl, hbr, _, hcr0⟩ := Ints.at hR5 k hlt
            have hcr : wr.cell? ⟨br, or + k, none⟩ = some (.int .i64 (gt R k)) := hg.cell hcr0 (fun h => hbr h.symm)
            clear hcr0 hRk
            go_wp2
            go_loopw [66] (fun i wr => ∃ m : Nat, i = .int .i64 m ∧ m ≤ (gt R k).toNat ∧ W5.grownBy wr (some g) ∧ Own base wr (.slice (some ⟨g, 0, none⟩) E.length cap) (iter m (fun e => tvec (tgen P fuel) e (gt (gt P.conj j) k)) (tconjTo (tgen P fuel) (gt P.conj j) R E2 k)) ∧ Vec P.orders (iter m (fun e => tvec (tgen P fuel) e (gt (gt P.conj j) k)) (tconjTo (tgen P fuel) (gt P.conj j) R E2 k))) (fun i _ => (gt R k).toNat - (intOf i).toNat)
            case atStart => exact ⟨0, rfl, by omega, hg, hO, hvk⟩
            case round =>
              clear hg hO hcr hvk
              obtain ⟨m, rfl, hm, hg, hO, hvk⟩ := hrel
              by_cases hlt2 : (m : Int) < gt R k
              · have hp6 : PresP (Off (some g)) wr (.pointer (some ⟨pb, po, none⟩)) P := hp.mono (frame_of (grown_trans hgw5 hg) fun k h _ => ⟨h, h⟩)
                obtain ⟨ac, capc, hcc, hcr⟩ := hp6.conjAt
                obtain ⟨bc, oc, ac2, capc2, rfl, _, _, hc6, hcr6⟩ := Rows3.at hcr j hjc
                obtain ⟨bd, od, ad2, capd2, rfl, _, _, hc7, hcr7⟩ := Rows2.at hcr6 k (by omega)
                clear hcr hcr6
                go_wp2_with fail
                refine Calls.mono (timesVector_of P hP fuel ih base wr _ _ _ _ (gt (gt P.conj j) k) hp6 hO hvk hcr7 HCk.out.1 HCk.out.2) ?_
                rintro e6 W6 ⟨v6, rfl, hg6, rfl, hO6⟩
                have hg7 : W5.grownBy W6 (some g) := grown_trans hg hg6
                have hv7 := tvec_vec HCk.out.1 (fun e i he hi h0 => tgen_vec hP fuel e i he hi (HCk.out.2 i hi h0)) hvk
                clear hc6 hc7 hcc hcr7 hp6 hO hg6 hg
                go_wp2
                go_roundw
                case rel => exact ⟨m + 1, by go_num, by omega, hg7, hO6, hv7⟩
                case measure => simp [intOf]; omega
              · have hme : m = (gt R k).toNat := by omega
                subst hme
                go_wp2
                go_roundw
                case rel => exact ⟨k + 1, by go_num, by omega, hg, hO, hvk⟩
                case measure => simp [intOf]; omega
          · have hke : k = R.length := by omega
            subst hke
            go_wp2
            go_end0
            exact ⟨_, rfl, grown_trans hgw5 hg, rfl, by rw [HF2.out]; exact hO⟩

end Go.Proofs.Ytdfjgpioaomceaa
