/-
  The program's homomorphisms: impl.evaluate, respects, areElements.
-/
import Derived.Test.YtchbegeklckgnaaGreatSRelsW
import Derived.Test.YtchbegeklckgnaaGreatK7
namespace Go.Proofs.YtchbegeklckgnaaGreat
open Go.RowKit

set_option maxRecDepth 100000 in
set_option maxHeartbeats 2000000 in
theorem evaluate_ok (Q : Pr) (G : Grp Q) (w : World) (p wv iv : Value) (W : List Int) (Is : List (List Int)) (Sp Sw Si : Nat → Prop) (hp : PresP Sp w p Q) (hw : Ints Sw w wv W) (hi : Rows2 Si w iv Is) (hI : ∀ x ∈ Is, Vec Q.orders x)
    (hW : WordN Is.length W) (hWl : W.length ≤ 1000) (hIl : Is.length ≤ 6) :
    Calls Tryz.prog 150 #[p, wv, iv] w (Ret w fun w' v => Own w.heap.size w' v (evalTo Q Is W W.length)) := by
  have hP := G.v
  have hn6 := hP.n6
  obtain ⟨pb, po, rfl⟩ := hp.shape
  obtain ⟨ao, capo, hco, hoi⟩ := hp.ordAt
  obtain ⟨aw, capw, rfl, _, _⟩ := hw.shape
  obtain ⟨ai, capi, rfl, _, _⟩ := Sl.shape hi
  have HW := Lib.hid (And.intro hI hW); clear hI hW
  go_enter Tryz.func150, Tryz.ntmps150
  go_wp2_with (first | (at_make; refine wp_make_ints rfl _ _ rfl w.heap.size Q.orders.length w.heap.size rfl _ rfl rfl rfl (by omega) (Nat.le_refl _) ?_; intro w1 ho1 hg1 hlt1) | fail)
  clear hco
  generalize Value.slice (some ⟨w.heap.size, 0, none⟩) Q.orders.length Q.orders.length = r at *
  go_loopw [19] (fun iv wr => ∃ k : Nat, iv = .int .i64 k ∧ k ≤ W.length ∧ Ext w wr ∧ Own w.heap.size wr r (evalTo Q Is W k)) (fun iv _ => W.length - (intOf iv).toNat)
  case atStart => exact ⟨0, rfl, by omega, hg1, ho1⟩
  case round =>
    clear ho1
    obtain ⟨k, rfl, hk, hg, hO⟩ := hrel
    have hE := G.eval_vec HW.out.1 HW.out.2 k hk
    by_cases hlt : k < W.length
    · have hlt' : (k : Int) < W.length := by omega
      obtain ⟨bw, ow, rfl, _, _, hcw⟩ := Ints.at (hw.ext hg) k hlt
      obtain ⟨l, hl⟩ : ∃ l, l = gt W k := ⟨_, rfl⟩
      rw [← hl] at hcw
      have hb := HW.out.2 l (by rw [hl]; exact gtMem hlt)
      obtain ⟨E, hEd⟩ : ∃ E, E = evalTo Q Is W k := ⟨_, rfl⟩
      rw [← hEd] at hO hE
      by_cases hneg : l < 0
      · obtain ⟨t, ht⟩ : ∃ t : Nat, t = (-l - 1).toNat := ⟨_, rfl⟩
        have hti : t < Is.length := by omega
        have htl : -l = (t : Int) + 1 := by omega
        have hxV := HW.out.1 _ (gtMem hti)
        have hst : evalTo Q Is W (k + 1) = rMul Q E (rInv Q (gt Is t)) := by rw [evalTo, ← hl, if_pos hneg, ← ht, hEd]
        have hiV := G.invV hxV
        have hiE := G.iInv_eq hxV
        have htv := G.tv_eq hE hiV
        have habs := abs_ok l wr (by omega)
        rw [if_pos hneg, htl] at habs
        have hti' : (t : Int) < Is.length := by omega
        have hwr : IntKind.i64.wrap ((t : Int) + 1 - 1) = (t : Int) := by rw [show (t : Int) + 1 - 1 = t by omega]; exact IntWalk.i64_in _ (by omega)
        obtain ⟨bx, ox, a2, cap2, rfl, _, _, hcx, hrx⟩ := Rows2.at (Rows2.ext hi hg) t hti
        have HX := Lib.hid (And.intro hxV (And.intro hst (And.intro hiV (And.intro hiE (And.intro htv hE))))); clear hxV hst hiV hiE htv hE hEd hl ht htl
        go_wp2_with fail
        refine Calls.mono habs ?_
        rintro e2 w2 ⟨rfl, rfl⟩
        clear habs
        go_wp2_with fail
        refine Calls.mono (invert_ok Q hP wr _ _ (gt Is t) Sp Si (hp.ext hg) hrx HX.out.1) ?_
        rintro e3 w3 ⟨v3, rfl, hg3, hO3⟩
        rw [HX.out.2.2.2.1] at hO3
        have hOw := hO.ext0 hg3
        have hg03 := grown_trans hg hg3
        have hlen : (rInv Q (gt Is t)).length ≤ 6 := by rw [HX.out.2.2.1.1]; exact hn6
        have hx3 : Ints (Off r.ownBlock) w3 v3 (rInv Q (gt Is t)) := ints_of_own hO3 (by omega) (fun j hj e => by have h1 := (hO3.lt j hj).1; have h2 := (hO.lt j e).2; omega)
        clear hO3 hcw hcx
        go_wp2_with fail
        refine Calls.mono (timesVector_ok Q hP w.heap.size w3 _ r v3 E _ (hp.mono (off_of hOw (Nat.le_refl _) hg03)) hOw HX.out.2.2.2.2.2 hx3 HX.out.2.2.1) ?_
        rintro e4 w4 ⟨v4, rfl, hg4, rfl, hR4⟩
        have hg04 := mut_ext hg03 hOw (Nat.le_refl _) hg4
        rw [HX.out.2.2.2.2.1, ← HX.out.2.1] at hR4
        clear hO hOw hx3 hlen
        go_wp2
        go_roundw
        case rel => exact ⟨k + 1, by go_num, by omega, hg04, hR4⟩
        case measure => simp [intOf]; omega
      · obtain ⟨t, ht⟩ : ∃ t : Nat, t = (l - 1).toNat := ⟨_, rfl⟩
        have hti : t < Is.length := by omega
        have htl : l = (t : Int) + 1 := by omega
        have hxV := HW.out.1 _ (gtMem hti)
        have hst : evalTo Q Is W (k + 1) = rMul Q E (gt Is t) := by rw [evalTo, ← hl, if_neg hneg, ← ht, hEd]
        have htv := G.tv_eq hE hxV
        have habs := abs_ok l wr (by omega)
        rw [if_neg hneg] at habs
        have hti' : (t : Int) < Is.length := by omega
        have hwr : IntKind.i64.wrap (l - 1) = (t : Int) := by rw [htl, show (t : Int) + 1 - 1 = t by omega]; exact IntWalk.i64_in _ (by omega)
        obtain ⟨bx, ox, a2, cap2, rfl, _, _, hcx, hrx⟩ := Rows2.at hi t hti
        have HX := Lib.hid (And.intro hxV (And.intro hst (And.intro htv hE))); clear hxV hst htv hE hEd hl ht htl
        have hcx := hg.cell hcx (by simp)
        go_wp2_with fail
        refine Calls.mono habs ?_
        rintro e2 w2 ⟨rfl, rfl⟩
        clear habs
        go_wp2_with fail
        refine Calls.mono (timesVector_ok Q hP w.heap.size wr _ r _ E _ (hp.mono (off_of hO (Nat.le_refl _) hg)) hO HX.out.2.2.2 (hrx.mono (off_of hO (Nat.le_refl _) hg)) HX.out.1) ?_
        rintro e4 w4 ⟨v4, rfl, hg4, rfl, hR4⟩
        have hg04 := mut_ext hg hO (Nat.le_refl _) hg4
        rw [HX.out.2.2.1, ← HX.out.2.1] at hR4
        clear hO hcw hcx
        go_wp2
        go_roundw
        case rel => exact ⟨k + 1, by go_num, by omega, hg04, hR4⟩
        case measure => simp [intOf]; omega
    · have hie : k = W.length := by omega
      subst hie
      go_wp2
      go_ret
      exact ⟨_, rfl, hg, hO⟩

set_option maxRecDepth 100000 in
set_option maxHeartbeats 2000000 in
theorem respects_ok (Q : Pr) (G : Grp Q) (w : World) (rv p iv : Value) (R Is : List (List Int)) (Sr Sp Si : Nat → Prop) (hr : Rows2 Sr w rv R) (hp : PresP Sp w p Q) (hi : Rows2 Si w iv Is) (hI : ∀ x ∈ Is, Vec Q.orders x)
    (hR : ∀ x ∈ R, WordN Is.length x ∧ x.length ≤ 1000) (hIl : Is.length ≤ 6) :
    Calls Tryz.prog 100 #[rv, p, iv] w (Ret w fun _ v => ∃ r : Bool, v = .bool r ∧ (r = true ↔ ∀ x ∈ R, evalTo Q Is x x.length = zeros Q.orders.length)) := by
  have hP := G.v
  have hn6 := hP.n6
  obtain ⟨ar, capr, rfl, _, _⟩ := Sl.shape hr
  have HI := Lib.hid (And.intro hI hR); clear hI hR
  go_enter Tryz.func100, Tryz.ntmps100
  go_wp2
  go_loopw [11] (fun iv wr => ∃ k : Nat, iv = .int .i64 k ∧ k ≤ R.length ∧ Ext w wr ∧ Hid (∀ j, j < k → evalTo Q Is (gt R j) (gt R j).length = zeros Q.orders.length)) (fun iv _ => R.length - (intOf iv).toNat)
  case atStart => exact ⟨0, rfl, by omega, Ext.refl _, Lib.hid (fun j h => by omega)⟩
  case round =>
    obtain ⟨k, rfl, hk, hg, hZ⟩ := hrel
    by_cases hlt : k < R.length
    · have hlt' : (k : Int) < R.length := by omega
      obtain ⟨bx, ox, a2, cap2, rfl, _, _, hcx, hrx⟩ := Rows2.at (Rows2.ext hr hg) k hlt
      have hxr := HI.out.2 _ (gtMem hlt)
      obtain ⟨X, hX⟩ : ∃ X, X = gt R k := ⟨_, rfl⟩
      rw [← hX] at hcx hrx hxr
      have hV := G.eval_vec HI.out.1 hxr.1 _ (Nat.le_refl _)
      obtain ⟨E, hE⟩ : ∃ E, E = evalTo Q Is X X.length := ⟨_, rfl⟩
      have hz := isZeroB_zeros (l := E) (o := Q.orders) (by rw [hE]; exact hV)
      have hEl : E.length ≤ 6 := by rw [hE, hV.1]; exact hn6
      have HX := Lib.hid (And.intro hX (And.intro hxr (And.intro hE (And.intro hz hEl)))); clear hX hxr hE hz hEl hV
      go_wp2_with fail
      refine Calls.mono (evaluate_ok Q G wr _ _ _ X Is Sp Sr Si (hp.ext hg) hrx (Rows2.ext hi hg) HI.out.1 HX.out.2.1.1 HX.out.2.1.2 hIl) ?_
      rintro e2 w2 ⟨v2, rfl, hg2, hO2⟩
      rw [← HX.out.2.2.1] at hO2
      have hEi := hO2.ints (by have := HX.out.2.2.2.2; omega)
      go_wp2_with fail
      refine Calls.mono (isZero_ok _ E w2 _ hEi) ?_
      rintro e3 w3 ⟨rfl, rfl⟩
      have hg2w := grown_trans hg hg2
      clear hO2 hEi hcx
      cases hb : isZeroB E with
      | true =>
        have hEz := HX.out.2.2.2.1.1 hb
        have HB := Lib.hid hEz; clear hb hEz
        go_wp2
        go_roundw
        case rel => exact ⟨k + 1, by go_num, by omega, hg2w, Lib.hid (fun j hj => by
          rcases Nat.lt_succ_iff_lt_or_eq.1 hj with h | h
          · exact hZ.out j h
          · rw [h, ← HX.out.1, ← HX.out.2.2.1]; exact HB.out)⟩
        case measure => simp [intOf]; omega
      | false =>
        have hno : ¬ ∀ x ∈ R, evalTo Q Is x x.length = zeros Q.orders.length := fun h => by
          have h1 := h _ (gtMem hlt)
          rw [← HX.out.1, ← HX.out.2.2.1] at h1
          have := HX.out.2.2.2.1.2 h1
          rw [hb] at this; cases this
        have HB := Lib.hid hno; clear hb hno
        go_wp2
        go_ret
        exact ⟨_, rfl, hg2w, false, rfl, by simp only [Bool.false_eq_true, false_iff]; exact HB.out⟩
    · have hke : k = R.length := by omega
      subst hke
      go_wp2
      go_ret
      exact ⟨_, rfl, hg, true, rfl, by
        simp only [true_iff]
        intro x hx
        obtain ⟨l, hl, rfl⟩ := List.getElem_of_mem hx
        rw [← gt_eq R l hl]; exact hZ.out l hl⟩

set_option maxRecDepth 100000 in
set_option maxHeartbeats 2000000 in
theorem areElements_ok (Q : Pr) (w : World) (p lv : Value) (L : List (List Int)) (Sp Sl' : Nat → Prop) (hp : PresP Sp w p Q) (hl : Rows2 Sl' w lv L) :
    Calls Tryz.prog 98 #[p, lv] w (Ret w fun _ v => ∃ r : Bool, v = .bool r ∧ (r = true ↔ rconsB Q = true ∧ ∀ x ∈ L, Vec Q.orders x)) := by
  obtain ⟨pb, po, rfl⟩ := hp.shape
  obtain ⟨al, capl, rfl, _, _⟩ := Sl.shape hl
  obtain ⟨vo, vp, vc, _, _, hc0, hc1, hc2, h3⟩ := hp.at
  obtain ⟨ao, capo, rfl, _, _⟩ := h3.o.shape
  obtain ⟨ap, capp, rfl, _, _⟩ := Sl.shape h3.p
  obtain ⟨ac, capc, rfl, _, _⟩ := Sl.shape h3.c
  have hcon := isConsistent_ok Q w (.agg #[.slice ao Q.orders.length capo, .slice ap Q.powers.length capp, .slice ac Q.conj.length capc]) Sp ⟨_, _, _, rfl, h3⟩
  rw [icons_eq] at hcon
  go_enter Tryz.func98, Tryz.ntmps98
  go_wp2_with fail
  refine Calls.mono hcon ?_
  rintro e1 w1 ⟨v, rfl, hg1, rfl⟩
  clear hcon
  cases hq : rconsB Q with
  | false =>
    have HQ := Lib.hid hq; clear hq
    go_wp2
    go_ret
    exact ⟨_, rfl, hg1, false, rfl, by simp only [Bool.false_eq_true, false_iff]; rintro ⟨h, _⟩; rw [HQ.out] at h; cases h⟩
  | true =>
    have G := grp_of_r hq
    have hn6 := G.v.n6
    have HQ := Lib.hid hq; clear hq hc0 hc1 hc2
    go_wp2
    go_loopw [14] (fun jv wr => ∃ j : Nat, jv = .int .i64 j ∧ j ≤ L.length ∧ Ext w wr ∧ Hid (∀ l, l < j → Vec Q.orders (gt L l))) (fun jv _ => L.length - (intOf jv).toNat)
    case atStart => exact ⟨0, rfl, by omega, hg1, Lib.hid (fun j h => by omega)⟩
    case round =>
      obtain ⟨j, rfl, hj, hg, hV⟩ := hrel
      by_cases hjl : j < L.length
      · have hjl' : (j : Int) < L.length := by omega
        obtain ⟨b3, off3, a3, cap3, rfl, _, _, hc3, hr3⟩ := Rows2.at (Rows2.ext hl hg) j hjl
        have hex := isExponents_ok wr _ _ Q (gt L j) Sp Sl' (hp.ext hg) hr3 (fun i hi => by have := G.v.ord7 i hi; omega)
        cases hb : expB Q.orders (gt L j) with
        | true =>
          rw [hb] at hex
          have HB := Lib.hid (expB_vec.1 hb); clear hb
          go_wp2_with fail
          refine Calls.mono hex ?_
          rintro eE wE ⟨rfl, rfl⟩
          clear hex
          go_wp2
          go_roundw
          case rel => exact ⟨j + 1, by go_num, by omega, hg, Lib.hid (fun l hl => by
            rcases Nat.lt_succ_iff_lt_or_eq.1 hl with h | h
            · exact hV.out l h
            · rw [h]; exact HB.out)⟩
          case measure => simp [intOf]; omega
        | false =>
          rw [hb] at hex
          have hno : ¬ ∀ x ∈ L, Vec Q.orders x := fun h => by
            have := expB_vec.2 (h _ (gtMem hjl))
            rw [hb] at this; cases this
          have HB := Lib.hid hno; clear hb hno
          go_wp2_with fail
          refine Calls.mono hex ?_
          rintro eE wE ⟨rfl, rfl⟩
          clear hex
          go_wp2
          go_ret
          exact ⟨_, rfl, hg, false, rfl, by simp only [Bool.false_eq_true, false_iff]; rintro ⟨_, h⟩; exact HB.out h⟩
      · have hke : j = L.length := by omega
        subst hke
        go_wp2
        go_ret
        exact ⟨_, rfl, hg, true, rfl, by
          simp only [true_iff]
          refine ⟨HQ.out, fun x hx => ?_⟩
          obtain ⟨l, hl, rfl⟩ := List.getElem_of_mem hx
          rw [← gt_eq L l hl]; exact hV.out l hl⟩

end Go.Proofs.YtchbegeklckgnaaGreat
