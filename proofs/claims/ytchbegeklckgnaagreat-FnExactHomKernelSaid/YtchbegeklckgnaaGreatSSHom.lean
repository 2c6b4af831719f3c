/-
  The reference's homomorphisms: spec.l10Eval, l16Relators.
-/
import Derived.Test.YtchbegeklckgnaaGreatSSRels
import Derived.Test.YtchbegeklckgnaaGreatK7
import Derived.Test.YtchbegeklckgnaaGreatK2
import Derived.Test.YtchbegeklckgnaaGreatSHomKer
namespace Go.Proofs.YtchbegeklckgnaaGreat
open Go.RowKit

set_option maxRecDepth 100000 in
set_option maxHeartbeats 4000000 in
theorem l10Eval_ok (Q : Pr) (G : Grp Q) (w : World) (pv wv iv : Value) (W : List Int) (Is : List (List Int)) (Sp Sw Si : Nat → Prop) (hpv : PresV Sp w pv Q) (hw : Ints Sw w wv W) (hi : Rows2 Si w iv Is) (hI : ∀ x ∈ Is, Vec Q.orders x)
    (hW : WordN Is.length W) (hWl : W.length ≤ 1000) (hIl : Is.length ≤ 6) :
    Calls Tryz.prog 142 #[pv, wv, iv] w (Ret w fun w' v => Own w.heap.size w' v (evalTo Q Is W W.length)) := by
  have hP := G.v
  have hn6 := hP.n6
  obtain ⟨vo, vp, vc, rfl, h3⟩ := hpv
  have hp0 := PresP.box h3 32
  have hg0 : Ext w (w.alloc (.cells #[vo, vp, vc] 32)) := World.grownBy_alloc _ _ _
  have hs0 : (w.alloc (.cells #[vo, vp, vc] 32)).heap.size = w.heap.size + 1 := by simp
  have hw0 := hw.ext hg0
  have hi0 := Rows2.ext hi hg0
  obtain ⟨aw, capw, rfl, _, _⟩ := hw.shape
  obtain ⟨ai, capi, rfl, _, _⟩ := Sl.shape hi
  obtain ⟨vo6, vp6, vc6, _, _, hc0, hc1, hc2, h36⟩ := hp0.at
  simp only [Nat.zero_add] at hc1 hc2
  have HW := Lib.hid (And.intro hI hW); clear hI hW hp0 hw hi
  go_enter Tryz.func142, Tryz.ntmps142
  go_wp2_with fail
  have HS := Lib.hid hs0; clear hs0
  generalize hww : w.alloc (.cells #[vo, vp, vc] 32) = w0 at *
  clear hww
  refine Calls.mono (l10One_ok Q hP w0 _ Any ⟨_, _, _, rfl, h36⟩) ?_
  rintro e1 w1 ⟨r, rfl, hg1, ho1⟩
  go_wp2
  go_loopw [7, 8] (fun ov kv wr => ∃ k : Nat, kv = .int .i64 k ∧ k ≤ W.length ∧ Ext w0 wr ∧ Own w.heap.size wr ov (evalTo Q Is W k)) (fun _ kv _ => W.length - (intOf kv).toNat)
  case atStart => exact ⟨0, rfl, by omega, hg1, ho1.weak (by have := HS.out; omega)⟩
  case round =>
    clear ho1
    obtain ⟨k, rfl, hk, hg, hO⟩ := hrel
    have hE := G.eval_vec HW.out.1 HW.out.2 k hk
    obtain ⟨E, hEd⟩ : ∃ E, E = evalTo Q Is W k := ⟨_, rfl⟩
    rw [← hEd] at hO hE
    have hEl : E.length ≤ 6 := by rw [hE.1]; exact hn6
    have hEi := hO.ints (by omega)
    obtain ⟨ay, capy, hvy, _, _⟩ := hEi.shape
    subst hvy
    by_cases hlt : k < W.length
    · have hlt' : (k : Int) < W.length := by omega
      obtain ⟨bw, ow, rfl, _, _, hcw⟩ := Ints.at hw0 k hlt
      obtain ⟨l, hl⟩ : ∃ l, l = gt W k := ⟨_, rfl⟩
      rw [← hl] at hcw
      have hb := HW.out.2 l (by rw [hl]; exact gtMem hlt)
      have hcwr := hg.cell hcw (by simp)
      have e1 : ∀ w', Ext wr w' → w'.cell? ⟨w.heap.size, 0, none⟩ = some vo6 := fun w' h => (grown_trans hg h).cell hc0 (by simp)
      have e2 : ∀ w', Ext wr w' → w'.cell? ⟨w.heap.size, 1, none⟩ = some vp6 := fun w' h => (grown_trans hg h).cell hc1 (by simp)
      have e3 : ∀ w', Ext wr w' → w'.cell? ⟨w.heap.size, 2, none⟩ = some vc6 := fun w' h => (grown_trans hg h).cell hc2 (by simp)
      have e5 : ∀ w', Ext wr w' → w'.cell? ⟨bw, ow + k, none⟩ = some (.int .i64 l) := fun w' h => (grown_trans hg h).cell hcw (by simp)
      by_cases hneg : l < 0
      · obtain ⟨t, ht⟩ : ∃ t : Nat, t = (-l - 1).toNat := ⟨_, rfl⟩
        have hti : t < Is.length := by omega
        have hxV := HW.out.1 _ (gtMem hti)
        have hst : evalTo Q Is W (k + 1) = rMul Q E (rInv Q (gt Is t)) := by rw [evalTo, ← hl, if_pos hneg, ← ht, hEd]
        have hiV := G.invV hxV
        have hil : (rInv Q (gt Is t)).length ≤ 6 := by rw [hiV.1]; exact hn6
        have hti' : (t : Int) < Is.length := by omega
        have hwr1 : IntKind.i64.wrap (-l) = (t : Int) + 1 := by rw [show -l = (t : Int) + 1 by omega]; exact IntWalk.i64_in _ (by omega)
        have hwr2 : IntKind.i64.wrap ((t : Int) + 1 - 1) = (t : Int) := by rw [show (t : Int) + 1 - 1 = (t : Int) by omega]; exact IntWalk.i64_in _ (by omega)
        have hwr3 : IntKind.i64.wrap (t : Int) = (t : Int) := IntWalk.i64_in _ (by omega)
        have ht0 : (0 : Int) ≤ t := by omega
        have hng : ¬ 0 < l := by omega
        obtain ⟨bx, ox, a2, cap2, rfl, _, _, hcx, hrx⟩ := Rows2.at hi0 t hti
        have e4 : ∀ w', Ext wr w' → w'.cell? ⟨bx, ox + t, none⟩ = some (.slice a2 (gt Is t).length cap2) := fun w' h => (grown_trans hg h).cell hcx (by simp)
        have HX := Lib.hid (And.intro hxV (And.intro hst (And.intro hiV (And.intro hil hE)))); clear hxV hst hiV hil hE hEd hl ht hb
        go_wp2
        clear hcwr
        go_region_held3 (fun w' => Ext wr w') (first | exact grown_drew _ _ | assumption)
          (first
            | (go_at_call 162; refine Calls.mono (Calls.rel (w0 := wr) (by assumption) (l10Inv_ok Q hP _ _ _ (gt Is t) Any Any ⟨_, _, _, rfl, Pres3.ext (Pres3.ext h36 hg) (by assumption)⟩ (Ints.sub (Ints.ext (Ints.ext hrx hg) (by assumption)) (fun _ _ _ => trivial)) HX.out.1)) ?_; rintro eA wA ⟨vA, rfl, hgA, hsA, hOA⟩; have hOA2 := hOA.ints (by have := HX.out.2.2.2.1; omega))
            | (go_at_call 129; refine Calls.mono (Calls.rel (w0 := wr) (by assumption) (l08Mul_ok Q hP _ _ _ _ E _ Any Any Any ⟨_, _, _, rfl, Pres3.ext (Pres3.ext h36 hg) (by assumption)⟩ (Ints.sub (Ints.ext hEi (by assumption)) (fun _ _ _ => trivial)) hOA2 HX.out.2.2.2.2 HX.out.2.2.1)) ?_; rintro eB wB ⟨vB, rfl, hgB, hsB, hOB⟩))
        clear e1 e2 e3 e4 e5
        rw [← HX.out.2.1] at hOB
        go_wp2
        go_roundw
        case rel => exact ⟨k + 1, by go_num, by omega, grown_trans hg hgB, hOB.weak (by have := hg.size; have := HS.out; omega)⟩
        case measure => simp [intOf]; omega
      · obtain ⟨t, ht⟩ : ∃ t : Nat, t = (l - 1).toNat := ⟨_, rfl⟩
        have hti : t < Is.length := by omega
        have hxV := HW.out.1 _ (gtMem hti)
        have hst : evalTo Q Is W (k + 1) = rMul Q E (gt Is t) := by rw [evalTo, ← hl, if_neg hneg, ← ht, hEd]
        have hti' : (t : Int) < Is.length := by omega
        have hwr2 : IntKind.i64.wrap (l - 1) = (t : Int) := by rw [show l - 1 = (t : Int) by omega]; exact IntWalk.i64_in _ (by omega)
        have hng : 0 < l := by omega
        obtain ⟨bx, ox, a2, cap2, rfl, _, _, hcx, hrx⟩ := Rows2.at hi0 t hti
        have e4 : ∀ w', Ext wr w' → w'.cell? ⟨bx, ox + t, none⟩ = some (.slice a2 (gt Is t).length cap2) := fun w' h => (grown_trans hg h).cell hcx (by simp)
        have HX := Lib.hid (And.intro hxV (And.intro hst hE)); clear hxV hst hE hEd hl ht hb
        go_wp2
        clear hcwr
        go_region_held3 (fun w' => Ext wr w') (first | exact grown_drew _ _ | assumption)
          (first
            | (go_at_call 129; refine Calls.mono (Calls.rel (w0 := wr) (by assumption) (l08Mul_ok Q hP _ _ _ _ E (gt Is t) Any Any Any ⟨_, _, _, rfl, Pres3.ext (Pres3.ext h36 hg) (by assumption)⟩ (Ints.sub (Ints.ext hEi (by assumption)) (fun _ _ _ => trivial)) (Ints.sub (Ints.ext (Ints.ext hrx hg) (by assumption)) (fun _ _ _ => trivial)) HX.out.2.2 HX.out.1)) ?_; rintro eB wB ⟨vB, rfl, hgB, hsB, hOB⟩))
        clear e1 e2 e3 e4 e5
        rw [← HX.out.2.1] at hOB
        go_wp2
        go_roundw
        case rel => exact ⟨k + 1, by go_num, by omega, grown_trans hg hgB, hOB.weak (by have := hg.size; have := HS.out; omega)⟩
        case measure => simp [intOf]; omega
    · have hie : k = W.length := by omega
      subst hie
      have hfin : Own w.heap.size wr (.slice ay E.length capy) (evalTo Q Is W W.length) := by rw [← hEd]; exact hO
      clear hE hO hEi hEd
      go_wp2
      go_ret
      exact ⟨_, rfl, grown_trans hg0 hg, hfin⟩

set_option maxRecDepth 100000 in
set_option maxHeartbeats 4000000 in
theorem l16Relators_ok (P Q : Pr) (hP : Valid P) (G : Grp Q) (w : World) (pv qv iv : Value) (Is : List (List Int)) (Sp Sq Si : Nat → Prop) (hpv : PresV Sp w pv P) (hqv : PresV Sq w qv Q) (hi : Rows2 Si w iv Is) (hI : ∀ x ∈ Is, Vec Q.orders x)
    (hIl : Is.length = P.orders.length) :
    Calls Tryz.prog 94 #[pv, qv, iv] w (Ret w fun _ v => ∃ r : Bool, v = .bool r ∧ (r = true ↔ ∀ x ∈ relsP P, evalTo Q Is x x.length = zeros Q.orders.length)) := by
  have hn6 := G.v.n6
  have hpn := hP.n6
  have hI6 : Is.length ≤ 6 := by omega
  obtain ⟨vo, vp, vc, rfl, h3⟩ := hpv
  obtain ⟨uo, up, uc, rfl, k3⟩ := hqv
  have hp0 := PresP.box h3 32
  have hg0 : Ext w (w.alloc (.cells #[vo, vp, vc] 32)) := World.grownBy_alloc _ _ _
  have hs0 : (w.alloc (.cells #[vo, vp, vc] 32)).heap.size = w.heap.size + 1 := by simp
  have hq1 := PresP.box (k3.ext hg0) 32
  have hg1 : Ext (w.alloc (.cells #[vo, vp, vc] 32)) ((w.alloc (.cells #[vo, vp, vc] 32)).alloc (.cells #[uo, up, uc] 32)) := World.grownBy_alloc _ _ _
  have hp1 := hp0.ext hg1
  have hi1 := Rows2.ext hi (grown_trans hg0 hg1)
  have hg01 := grown_trans hg0 hg1
  rw [hs0] at hq1
  obtain ⟨ai, capi, rfl, _, _⟩ := Sl.shape hi
  obtain ⟨vo6, vp6, vc6, _, _, hc0, hc1, hc2, h36⟩ := hp1.at
  obtain ⟨uo6, up6, uc6, _, _, hd0, hd1, hd2, k36⟩ := hq1.at
  simp only [Nat.zero_add] at hc1 hc2 hd1 hd2
  have HI := Lib.hid (And.intro hI hIl); clear hI hIl hp0 hq1 hp1 hi hg0 hg1 hs0
  go_enter Tryz.func94, Tryz.ntmps94
  go_wp2_with fail
  generalize hww : (w.alloc (.cells #[vo, vp, vc] 32)).alloc (.cells #[uo, up, uc] 32) = w0 at *
  clear hww
  refine Calls.mono (l07Relators_ok P hP w0 _ Any ⟨_, _, _, rfl, h36⟩) ?_
  rintro e1 w1 ⟨rv, rfl, hg1, hR⟩
  have hRw := relTo_word hP P.orders.length (Nat.le_refl _)
  have hRl := relTo_len hP P.orders.length (Nat.le_refl _)
  have hRr := RowsD.rows (hR.toD (by show (relTo P P.orders.length).length ≤ _; omega))
  have HR := Lib.hid (show ∀ x ∈ relsP P, WordN Is.length x ∧ x.length ≤ 1000 from fun x hx => by rw [HI.out.2]; exact hRw x hx); clear hRw hRl hR
  obtain ⟨ar, capr, hvr, _, _⟩ := Sl.shape hRr
  subst hvr
  go_wp2
  go_loopw [8] (fun kv wr => ∃ k : Nat, kv = .int .i64 k ∧ k ≤ (relsP P).length ∧ Ext w1 wr ∧ Hid (∀ j, j < k → evalTo Q Is (gt (relsP P) j) (gt (relsP P) j).length = zeros Q.orders.length)) (fun kv _ => (relsP P).length - (intOf kv).toNat)
  case atStart => exact ⟨0, rfl, by omega, Ext.refl _, Lib.hid (fun j h => by omega)⟩
  case round =>
    obtain ⟨k, rfl, hk, hg, hZ⟩ := hrel
    have hgw := grown_trans hg1 hg
    by_cases hlt : k < (relsP P).length
    · have hlt' : (k : Int) < (relsP P).length := by omega
      obtain ⟨bx, ox, a2, cap2, rfl, _, _, hcx, hrx⟩ := Rows2.at (Rows2.ext hRr hg) k hlt
      have hxr := HR.out _ (gtMem hlt)
      obtain ⟨X, hX⟩ : ∃ X, X = gt (relsP P) k := ⟨_, rfl⟩
      rw [← hX] at hcx hrx hxr
      have hV := G.eval_vec HI.out.1 hxr.1 _ (Nat.le_refl _)
      obtain ⟨E, hE⟩ : ∃ E, E = evalTo Q Is X X.length := ⟨_, rfl⟩
      have hz := isZeroB_zeros (l := E) (o := Q.orders) (by rw [hE]; exact hV)
      have hEl : E.length ≤ 6 := by rw [hE, hV.1]; exact hn6
      have HX := Lib.hid (And.intro hX (And.intro hxr (And.intro hE (And.intro hz hEl)))); clear hX hxr hE hz hEl hV
      have e1 : ∀ w', Ext wr w' → w'.cell? ⟨w.heap.size + 1, 0, none⟩ = some uo6 := fun w' h => (grown_trans hgw h).cell hd0 (by simp)
      have e2 : ∀ w', Ext wr w' → w'.cell? ⟨w.heap.size + 1, 1, none⟩ = some up6 := fun w' h => (grown_trans hgw h).cell hd1 (by simp)
      have e3 : ∀ w', Ext wr w' → w'.cell? ⟨w.heap.size + 1, 2, none⟩ = some uc6 := fun w' h => (grown_trans hgw h).cell hd2 (by simp)
      have e4 : ∀ w', Ext wr w' → w'.cell? ⟨bx, ox + k, none⟩ = some (.slice a2 X.length cap2) := fun w' h => h.cell hcx (by simp)
      clear hcx
      go_wp2
      go_region_held3 (fun w' => Ext wr w') (first | exact grown_drew _ _ | assumption)
        (first
          | (go_at_call 142; refine Calls.mono (Calls.rel (w0 := wr) (by assumption) (l10Eval_ok Q G _ _ _ _ X Is Any Any Any ⟨_, _, _, rfl, Pres3.ext (Pres3.ext k36 hgw) (by assumption)⟩ (Ints.sub (Ints.ext hrx (by assumption)) (fun _ _ _ => trivial)) (Rows2.sub (Rows2.ext (Rows2.ext hi1 hgw) (by assumption)) (fun _ _ _ => trivial)) HI.out.1 HX.out.2.1.1 HX.out.2.1.2 hI6)) ?_; rintro eA wA ⟨vA, rfl, hgA, hsA, hOA⟩; rw [← HX.out.2.2.1] at hOA; have hOA2 := hOA.ints (by have := HX.out.2.2.2.2; omega))
          | (go_at_call 141; refine Calls.mono (l01Zero_ok _ E _ _ hOA2) ?_; rintro eB wB ⟨rfl, rfl⟩))
      clear e1 e2 e3 e4
      have hgn := grown_trans hg hgA
      cases hb : isZeroB E with
      | true =>
        have hEz := HX.out.2.2.2.1.1 hb
        have HB := Lib.hid hEz; clear hb hEz
        go_wp2
        go_roundw
        case rel => exact ⟨k + 1, by go_num, by omega, hgn, Lib.hid (fun j hj => by
          rcases Nat.lt_succ_iff_lt_or_eq.1 hj with h | h
          · exact hZ.out j h
          · rw [h, ← HX.out.1, ← HX.out.2.2.1]; exact HB.out)⟩
        case measure => simp [intOf]; omega
      | false =>
        have hno : ¬ ∀ x ∈ relsP P, evalTo Q Is x x.length = zeros Q.orders.length := fun h => by
          have h1 := h _ (gtMem hlt)
          rw [← HX.out.1, ← HX.out.2.2.1] at h1
          have := HX.out.2.2.2.1.2 h1
          rw [hb] at this; cases this
        have HB := Lib.hid hno; clear hb hno
        go_wp2
        go_ret
        exact ⟨_, rfl, grown_trans hg01 (grown_trans hg1 hgn), false, rfl, by simp only [Bool.false_eq_true, false_iff]; exact HB.out⟩
    · have hke : k = (relsP P).length := by omega
      subst hke
      go_wp2
      go_ret
      exact ⟨_, rfl, grown_trans hg01 hgw, true, rfl, by
        simp only [true_iff]
        intro x hx
        obtain ⟨l, hl, rfl⟩ := List.getElem_of_mem hx
        rw [← gt_eq (relsP P) l hl]; exact hZ.out l hl⟩

end Go.Proofs.YtchbegeklckgnaaGreat
