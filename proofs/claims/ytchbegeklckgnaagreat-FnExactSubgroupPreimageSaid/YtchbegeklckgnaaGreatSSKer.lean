/-
  The reference's HomKernel and SubgroupPreimage.
-/
import Derived.Test.YtchbegeklckgnaaGreatSSHom
import Derived.Test.YtchbegeklckgnaaGreatK7
namespace Go.Proofs.YtchbegeklckgnaaGreat
open Go.RowKit

/-- the cells of a homomorphism in a block -/
def HomC (w : World) (b : Nat) (vo vp vc uo up uc vi : Value) : Prop :=
  w.cell? ⟨b, 0, none⟩ = some vo ∧ w.cell? ⟨b, 1, none⟩ = some vp ∧ w.cell? ⟨b, 2, none⟩ = some vc ∧ w.cell? ⟨b, 3, none⟩ = some uo ∧ w.cell? ⟨b, 4, none⟩ = some up ∧ w.cell? ⟨b, 5, none⟩ = some uc ∧ w.cell? ⟨b, 6, none⟩ = some vi
theorem HomC.made (w : World) (T : Nat) (vo vp vc uo up uc vi : Value) : HomC (w.alloc (.cells #[vo, vp, vc, uo, up, uc, vi] T)) w.heap.size vo vp vc uo up uc vi := by
  have hc : ∀ i, (w.alloc (.cells #[vo, vp, vc, uo, up, uc, vi] T)).cell? ⟨w.heap.size, i, none⟩ = #[vo, vp, vc, uo, up, uc, vi][i]? := fun i => World.cell?_alloc_at _ _ _ _ rfl
  exact ⟨by rw [hc]; rfl, by rw [hc]; rfl, by rw [hc]; rfl, by rw [hc]; rfl, by rw [hc]; rfl, by rw [hc]; rfl, by rw [hc]; rfl⟩
theorem HomC.ext {w w' : World} {b : Nat} {vo vp vc uo up uc vi : Value} (h : HomC w b vo vp vc uo up uc vi) (hg : Ext w w') : HomC w' b vo vp vc uo up uc vi := by
  obtain ⟨h0, h1, h2, h3, h4, h5, h6⟩ := h
  exact ⟨hg.cell h0 (by simp), hg.cell h1 (by simp), hg.cell h2 (by simp), hg.cell h3 (by simp), hg.cell h4 (by simp), hg.cell h5 (by simp), hg.cell h6 (by simp)⟩

set_option maxRecDepth 100000 in
set_option maxHeartbeats 4000000 in
theorem sIsHom_ok (P Q : Pr) (Is : List (List Int)) (w : World) (hv : Value) (Sh : Nat → Prop) (hh : HomV Sh w hv P Q Is) :
    Calls Tryz.prog 48 #[hv] w (Ret w fun _ v => ∃ r : Bool, v = .bool r ∧ (r = true ↔ HomB P Q Is)) := by
  obtain ⟨vo, vp, vc, uo, up, uc, vi, rfl, h1, h2, h3⟩ := hh
  obtain ⟨ao, capo, rfl, _, _⟩ := h1.o.shape
  obtain ⟨ai, capi, rfl, _, _⟩ := Sl.shape h3
  have hg0 : Ext w (w.alloc (.cells #[.slice ao P.orders.length capo, vp, vc, uo, up, uc, .slice ai Is.length capi] 34)) := World.grownBy_alloc _ _ _
  have hC := HomC.made w 34 (.slice ao P.orders.length capo) vp vc uo up uc (.slice ai Is.length capi)
  have h10 := h1.ext hg0
  have h20 := h2.ext hg0
  have h30 := Rows2.ext h3 hg0
  have HC := Lib.hid hC
  obtain ⟨c0, c1, c2, c3, c4, c5, c6⟩ := hC
  go_enter Tryz.func48, Tryz.ntmps48
  go_wp2_with fail
  clear c0 c1 c2 c3 c4 c5 c6
  generalize hww : w.alloc (.cells #[.slice ao P.orders.length capo, vp, vc, uo, up, uc, .slice ai Is.length capi] 34) = w0 at *
  clear hww
  refine Calls.mono (l08Group_ok P w0 _ Sh ⟨_, _, _, rfl, h10⟩) ?_
  rintro e1 w1 ⟨v1, rfl, hg1, rfl⟩
  cases hr : rconsB P with
  | false =>
    have HR := Lib.hid hr; clear hr
    go_wp2
    go_ret
    exact ⟨_, rfl, grown_trans hg0 hg1, false, rfl, by simp only [Bool.false_eq_true, false_iff]; rintro ⟨h, _⟩; rw [HR.out] at h; cases h⟩
  | true =>
    have GP := grp_of_r hr
    have HR := Lib.hid hr; clear hr
    obtain ⟨c0, c1, c2, c3, c4, c5, c6⟩ := HC.out.ext hg1
    go_wp2_with fail
    clear c0 c1 c2 c3 c4 c5 c6
    refine Calls.mono (l08Group_ok Q w1 _ Sh ⟨_, _, _, rfl, h20.ext hg1⟩) ?_
    rintro e2 w2 ⟨v2, rfl, hg2, rfl⟩
    have hg02 := grown_trans hg1 hg2
    cases hq : rconsB Q with
    | false =>
      have HQ := Lib.hid hq; clear hq
      go_wp2
      go_ret
      exact ⟨_, rfl, grown_trans hg0 hg02, false, rfl, by simp only [Bool.false_eq_true, false_iff]; rintro ⟨_, h, _⟩; rw [HQ.out] at h; cases h⟩
    | true =>
      have GQ := grp_of_r hq
      have HQ := Lib.hid hq; clear hq
      obtain ⟨c0, c1, c2, c3, c4, c5, c6⟩ := HC.out.ext hg02
      by_cases hlen : Is.length = P.orders.length
      · have hne : ((Is.length : Int) != (P.orders.length : Int)) = false := by simp; omega
        have HL := Lib.hid hlen; clear hlen
        go_wp2_with fail
        clear c0 c1 c2 c3 c4 c5 c6
        refine Calls.mono (l10Elements_ok Q GQ.v w2 _ _ Is Sh Sh ⟨_, _, _, rfl, h20.ext hg02⟩ (Rows2.ext h30 hg02)) ?_
        rintro e3 w3 ⟨v3, rfl, hg3, r3, rfl, hr3⟩
        have hg03 := grown_trans hg02 hg3
        cases r3 with
        | false =>
          have HE := Lib.hid hr3; clear hr3
          go_wp2
          go_ret
          exact ⟨_, rfl, grown_trans hg0 hg03, false, rfl, by simp only [Bool.false_eq_true, false_iff]; rintro ⟨_, _, _, h, _⟩; have := HE.out.2 h; cases this⟩
        | true =>
          have hI := hr3.1 rfl
          have HE := Lib.hid hI; clear hr3 hI
          obtain ⟨c0, c1, c2, c3, c4, c5, c6⟩ := HC.out.ext hg03
          go_wp2_with fail
          clear c0 c1 c2 c3 c4 c5 c6
          refine Calls.mono (l16Relators_ok P Q GP.v GQ w3 _ _ _ Is Sh Sh Sh ⟨_, _, _, rfl, h10.ext hg03⟩ ⟨_, _, _, rfl, h20.ext hg03⟩ (Rows2.ext h30 hg03) HE.out HL.out) ?_
          rintro e4 w4 ⟨v4, rfl, hg4, r4, rfl, hr4⟩
          have HF := Lib.hid hr4; clear hr4
          go_wp2
          go_ret
          exact ⟨_, rfl, grown_trans hg0 (grown_trans hg03 hg4), r4, rfl, ⟨fun h => ⟨HR.out, HQ.out, HL.out, HE.out, HF.out.1 h⟩, fun h => HF.out.2 h.2.2.2.2⟩⟩
      · have hne : ((Is.length : Int) != (P.orders.length : Int)) = true := by simp; omega
        have HL := Lib.hid hlen; clear hlen
        go_wp2
        clear c0 c1 c2 c3 c4 c5 c6
        go_ret
        exact ⟨_, rfl, grown_trans hg0 hg02, false, rfl, by simp only [Bool.false_eq_true, false_iff]; rintro ⟨_, _, h, _⟩; exact HL.out h⟩

theorem PresV.any {S : Nat → Prop} {w : World} {v : Value} {P : Pr} (h : PresV S w v P) : PresV Any w v P := by
  obtain ⟨vo, vp, vc, rfl, h3⟩ := h
  exact ⟨_, _, _, rfl, h3.mono (fun k _ hk => ⟨trivial, hk, rfl⟩)⟩

set_option maxHeartbeats 1000000 in
theorem l16Apply_ok (Q : Pr) (G : Grp Q) (w : World) (pv uv av : Value) (U : List (List Int)) (A : List Int) (Sp Su Sa : Nat → Prop) (hpv : PresV Sp w pv Q) (hu : Rows2 Su w uv U) (ha : Ints Sa w av A) (hU : ∀ z ∈ U, Vec Q.orders z) (hl : U.length ≤ A.length)
    (hA : ∀ i, i < U.length → 0 ≤ gt A i ∧ gt A i ≤ 1000) :
    Calls Tryz.prog 96 #[pv, uv, av] w (Ret w fun w' v => Own w.heap.size w' v (prodR Q U A U.length)) := by
  obtain ⟨vo, vp, vc, rfl, h3⟩ := hpv
  have hp0 := PresP.box h3 32
  have hg0 : Ext w (w.alloc (.cells #[vo, vp, vc] 32)) := World.grownBy_alloc _ _ _
  obtain ⟨vo6, vp6, vc6, _, _, hc0, hc1, hc2, h36⟩ := hp0.at
  simp only [Nat.zero_add] at hc1 hc2
  have hE := l12Product_ok Q G (w.alloc (.cells #[vo, vp, vc] 32)) _ uv av U A Any Su Sa ⟨_, _, _, rfl, h36⟩ (Rows2.ext hu hg0) (ha.ext hg0) hU hl hA
  clear hA hU hp0
  go_enter Tryz.func96, Tryz.ntmps96
  go_wp2_with fail
  refine Calls.mono hE ?_
  rintro e1 w1 ⟨v1, rfl, hg1, hO⟩
  clear hE hc0 hc1 hc2
  go_wp2
  go_ret
  exact ⟨_, rfl, grown_trans hg0 hg1, hO.weak hg0.size⟩

open Classical in
/-- the elements that are collected behind k of them -/
noncomputable def backL (P : Pr) (has : List Int → Prop) : Nat → List (List Int)
  | 0 => []
  | k + 1 => if has (elAt P k) then backL P has k ++ [elAt P k] else backL P has k
theorem backL_yes {P : Pr} {has : List Int → Prop} {k : Nat} (h : has (elAt P k)) : backL P has (k + 1) = backL P has k ++ [elAt P k] := by rw [backL, if_pos h]
theorem backL_no {P : Pr} {has : List Int → Prop} {k : Nat} (h : ¬ has (elAt P k)) : backL P has (k + 1) = backL P has k := by rw [backL, if_neg h]
theorem backL_len (P : Pr) (has : List Int → Prop) (k : Nat) : (backL P has k).length ≤ k := by
  induction k with
  | zero => simp [backL]
  | succ k ih =>
    by_cases h : has (elAt P k)
    · rw [backL_yes h]; simp; exact ih
    · rw [backL_no h]; omega
theorem backL_mem (P : Pr) (has : List Int → Prop) (k : Nat) (y : List Int) : y ∈ backL P has k ↔ ∃ j, j < k ∧ y = elAt P j ∧ has y := by
  induction k with
  | zero => simp [backL]
  | succ k ih =>
    by_cases h : has (elAt P k)
    · rw [backL_yes h, List.mem_append, ih, List.mem_singleton]
      constructor
      · rintro (⟨j, h1, h2⟩ | h1)
        · exact ⟨j, by omega, h2⟩
        · exact ⟨k, by omega, h1, by rw [h1]; exact h⟩
      · rintro ⟨j, h1, h2, h3⟩
        rcases Nat.lt_succ_iff_lt_or_eq.1 h1 with h4 | h4
        · exact .inl ⟨j, h4, h2, h3⟩
        · subst h4; exact .inr h2
    · rw [backL_no h, ih]
      constructor
      · rintro ⟨j, h1, h2⟩
        exact ⟨j, by omega, h2⟩
      · rintro ⟨j, h1, h2, h3⟩
        rcases Nat.lt_succ_iff_lt_or_eq.1 h1 with h4 | h4
        · exact ⟨j, h4, h2, h3⟩
        · subst h4; rw [h2] at h3; exact absurd h3 h
theorem backL_all {P : Pr} (hP : Valid P) (has : List Int → Prop) : (fun y => y ∈ backL P has (ordP P).toNat) = fun y => Vec P.orders y ∧ has y :=
  funext fun y => propext (by
    have hpos := hP.ordP_pos
    rw [backL_mem]
    constructor
    · rintro ⟨j, h1, h2, h3⟩
      exact ⟨by rw [h2]; exact elAt_vec hP _ (by omega), h3⟩
    · rintro ⟨h1, h2⟩
      have hb := num_bd hP h1
      exact ⟨(num P y).toNat, by omega, by rw [show (((num P y).toNat : Nat) : Int) = num P y by omega]; exact (elAt_num hP h1).symm, h2⟩)

set_option maxRecDepth 100000 in
set_option maxHeartbeats 4000000 in
theorem l16Back_ok (P Q : Pr) (GP : Grp P) (GQ : Grp Q) (Is : List (List Int)) (H : List Int → Prop) (S : Sub Q H) (w : World) (hv vv : Value) (Sh Sv : Nat → Prop) (hh : HomV Sh w hv P Q Is) (hI : ∀ x ∈ Is, Vec Q.orders x) (hIl : Is.length = P.orders.length)
    (hvr : Rows2 Sv w vv (cseq Q H)) :
    Calls Tryz.prog 49 #[hv, vv] w (Ret w fun w' v => Rows2 Any w' v (cseq P (genP P (backP P Q Is H)))) := by
  have hP := GP.v
  have hn6 := hP.n6
  have h729 : ordP P ≤ 729 := hP.le729
  have hpos := hP.ordP_pos
  obtain ⟨vo, vp, vc, uo, up, uc, vi, rfl, h1, h2, h3⟩ := hh
  obtain ⟨ai, capi, rfl, _, _⟩ := Sl.shape h3
  obtain ⟨av, capv, rfl, _, _⟩ := Sl.shape hvr
  have hg0 : Ext w (w.alloc (.cells #[vo, vp, vc, uo, up, uc, .slice ai Is.length capi] 34)) := World.grownBy_alloc _ _ _
  have hs0 : (w.alloc (.cells #[vo, vp, vc, uo, up, uc, .slice ai Is.length capi] 34)).heap.size = w.heap.size + 1 := by simp
  have hC := HomC.made w 34 vo vp vc uo up uc (.slice ai Is.length capi)
  have h10 := h1.ext hg0
  have h20 := h2.ext hg0
  have h30 := Rows2.ext h3 hg0
  have hv0 := Rows2.ext hvr hg0
  obtain ⟨N, hN⟩ : ∃ N, N = (ordP P).toNat := ⟨_, rfl⟩
  have hNo : (N : Int) = ordP P := by omega
  have hN729 : N ≤ 729 := by omega
  have hlast := backL_all hP (fun y => H (prodR Q Is y Is.length))
  rw [← hN] at hlast
  have HC := Lib.hid (And.intro hC (And.intro hNo (And.intro hI (And.intro hIl hlast)))); clear hC hN hNo hI hIl hlast h729 hpos
  go_enter Tryz.func49, Tryz.ntmps49
  go_wp2
  have HS := Lib.hid hs0; clear hs0
  generalize hww : w.alloc (.cells #[vo, vp, vc, uo, up, uc, .slice ai Is.length capi] 34) = w0 at *
  clear hww
  have hga : Ext w0 (w0.alloc (.cells #[] 22)) := World.grownBy_alloc _ _ _
  go_loopw [5, 6] (fun ov tv wr => ∃ (t : Nat) (v5 : Value), v5 = ov ∧ tv = .int .i64 t ∧ t ≤ N ∧ Ext w0 wr ∧ RowsO w0.heap.size wr v5 (backL P (fun y => H (prodR Q Is y Is.length)) t)) (fun _ tv _ => N - (intOf tv).toNat)
  case atStart => exact ⟨0, _, rfl, rfl, by omega, hga, [], fun _ _ => False, rfl, by rw [← HS.out]; exact World.ownsRow_lit w0 #[] 0 (Nat.le_refl _) (by decide) rfl, by simp, by simp, by simp [backL]⟩
  case round =>
    clear hga
    obtain ⟨t, v5, rfl, rfl, ht, hg, hO⟩ := hrel
    obtain ⟨L, hL⟩ : ∃ L, L = backL P (fun y => H (prodR Q Is y Is.length)) t := ⟨_, rfl⟩
    have hLl := backL_len P (fun y => H (prodR Q Is y Is.length)) t
    rw [← hL] at hO hLl
    obtain ⟨c0, c1, c2, c3, c4, c5, c6⟩ := HC.out.1.ext hg
    go_wp2_with fail
    clear c0 c1 c2 c3 c4 c5 c6
    refine Calls.mono (l10Order_ok wr _ P Sh hP ⟨_, _, _, rfl, h10.ext hg⟩) ?_
    rintro e1 w1 ⟨v1, rfl, hg1, rfl⟩
    rw [← HC.out.2.1]
    have hg01 := grown_trans hg hg1
    by_cases hlt : t < N
    · have hlt' : (t : Int) < N := by omega
      obtain ⟨c0, c1, c2, c3, c4, c5, c6⟩ := HC.out.1.ext hg01
      have hxV := elAt_vec hP (t : Int) (by omega)
      have hyes := backL_yes (P := P) (has := fun y => H (prodR Q Is y Is.length)) (k := t)
      have hno := backL_no (P := P) (has := fun y => H (prodR Q Is y Is.length)) (k := t)
      obtain ⟨x, hx⟩ : ∃ x, x = elAt P (t : Int) := ⟨_, rfl⟩
      rw [← hx] at hxV hyes hno
      rw [← hL] at hyes hno
      have hxl : x.length ≤ 6 := by rw [hxV.1]; exact hn6
      have hIx : Is.length ≤ x.length := by rw [hxV.1, HC.out.2.2.2.1]; omega
      have hxb : ∀ i, i < Is.length → 0 ≤ gt x i ∧ gt x i ≤ 1000 := fun i hi => by
        have h1 := hxV.2 i (by rw [← HC.out.2.2.2.1]; exact hi)
        have h2 := hP.ord7 i (by rw [← HC.out.2.2.2.1]; exact hi)
        omega
      have hmV := GQ.prodR_vec HC.out.2.2.1 x Is.length (Nat.le_refl _)
      have hml : (prodR Q Is x Is.length).length ≤ 6 := by rw [hmV.1]; exact GQ.v.n6
      have HX := Lib.hid (And.intro hx (And.intro hxV (And.intro hyes (And.intro hno (And.intro hxl (And.intro hxb (And.intro hmV (And.intro hml hIx)))))))); clear hx hxV hyes hno hxl hxb hmV hml hL hIx
      go_wp2_with fail
      clear c0 c1 c2 c3 c4 c5 c6
      refine Calls.mono (l10At_ok P hP w1 _ (t : Int) Sh ⟨_, _, _, rfl, h10.ext hg01⟩ (by omega) (by omega)) ?_
      rintro e2 w2 ⟨v2, rfl, hg2, hO2⟩
      rw [← HX.out.1] at hO2
      have hx2 := hO2.ints (by have := HX.out.2.2.2.2.1; omega)
      obtain ⟨ax, cx, hvx, _, _⟩ := hx2.shape
      subst hvx
      have hg02 := grown_trans hg01 hg2
      have hgr2 := grown_trans hg1 hg2
      have hyO : OwnIn (From wr.heap.size) w2 (.slice ax x.length cx) x := OwnIn.of hO2 (by have := HX.out.2.2.2.2.1; omega) (fun j h1 _ => by show wr.heap.size ≤ j; have h2 : wr.heap.size ≤ w1.heap.size := hg1.size; omega)
      have e3 : ∀ w', Ext w2 w' → w'.cell? ⟨w.heap.size, 3, none⟩ = some uo := fun w' h => (HC.out.1.ext (grown_trans hg02 h)).2.2.2.1
      have e4 : ∀ w', Ext w2 w' → w'.cell? ⟨w.heap.size, 4, none⟩ = some up := fun w' h => (HC.out.1.ext (grown_trans hg02 h)).2.2.2.2.1
      have e5 : ∀ w', Ext w2 w' → w'.cell? ⟨w.heap.size, 5, none⟩ = some uc := fun w' h => (HC.out.1.ext (grown_trans hg02 h)).2.2.2.2.2.1
      have e6 : ∀ w', Ext w2 w' → w'.cell? ⟨w.heap.size, 6, none⟩ = some (.slice ai Is.length capi) := fun w' h => (HC.out.1.ext (grown_trans hg02 h)).2.2.2.2.2.2
      clear hO2
      go_wp2
      go_region_held3 (fun w' => Ext w2 w') (first | exact grown_drew _ _ | assumption)
        (first
          | (go_at_call 96; refine Calls.mono (Calls.rel (w0 := w2) (by assumption) (l16Apply_ok Q GQ _ _ _ _ Is x Any Any Any (PresV.any ⟨_, _, _, rfl, h20.ext (grown_trans hg02 (by assumption))⟩) (Rows2.sub (Rows2.ext h30 (grown_trans hg02 (by assumption))) (fun _ _ _ => trivial)) (Ints.sub (Ints.ext hx2 (by assumption)) (fun _ _ _ => trivial)) HC.out.2.2.1 HX.out.2.2.2.2.2.2.2.2 HX.out.2.2.2.2.2.1)) ?_; rintro eA wA ⟨vA, rfl, hgA, hsA, hOA⟩; have hAi := hOA.ints (by have := HX.out.2.2.2.2.2.2.2.1; omega))
          | (go_at_call 95; refine Calls.mono (Calls.rel (w0 := w2) (by assumption) (l12Has_ok Q GQ _ _ _ _ H (prodR Q Is x Is.length) Any Any _ S (PresV.any ⟨_, _, _, rfl, h20.ext (grown_trans hg02 (by assumption))⟩) (Rows2.sub (Rows2.ext hv0 (grown_trans hg02 (by assumption))) (fun _ _ _ => trivial)) hAi HX.out.2.2.2.2.2.2.1)) ?_; rintro eB wB ⟨vB, rfl, hgB, hsB, r, rfl, hr⟩; have HRR := Lib.hid hr; clear hr))
      clear e3 e4 e5 e6
      have hgrB := grown_trans hgr2 hgB
      have hyB : OwnIn (From wr.heap.size) wB (.slice ax x.length cx) x := rdOwn.mono hyO (frame_ext hgB)
      cases r with
      | true =>
        have hst := HX.out.2.2.1 (HRR.out.1 rfl)
        have HST := Lib.hid hst; clear hst
        go_wp2_with (first | (at_builtin; refine wp_app_row rfl _ _ rfl w0.heap.size wr wB _ _ L x rfl hO hgrB hyB rfl rfl (by omega) hg.size ?_; intro v7 w7 hO7 hg7 hg7b) | fail)
        have hgw7 : Ext w0 w7 := grown_own hg hg7 (fun j hj hlt => by have := (hO.lt j hj).1; omega)
        rw [← HST.out] at hO7
        clear hO hyO hyB hg7 hg7b
        go_roundw
        case rel => exact ⟨t + 1, v7, rfl, by go_num, by omega, hgw7, hO7⟩
        case measure => simp [intOf]; omega
      | false =>
        have hOn : RowsO w0.heap.size wB v5 (backL P (fun y => H (prodR Q Is y Is.length)) (t + 1)) := by
          rw [HX.out.2.2.2.1 (fun h => by have := HRR.out.2 h; cases this)]; exact SlO.ext rdOwn hO hgrB
        have hgwB := grown_trans hg hgrB
        clear hO hyO hyB
        go_wp2
        go_roundw
        case rel => exact ⟨t + 1, v5, rfl, by go_num, by omega, hgwB, hOn⟩
        case measure => simp [intOf]; omega
    · have hte : t = N := by omega
      obtain ⟨c0, c1, c2, c3, c4, c5, c6⟩ := HC.out.1.ext hg01
      have hO1 := RowsD.rows ((SlO.ext rdOwn hO hg1).toD (by omega))
      have hmem : genP P (fun y => y ∈ L) = genP P (backP P Q Is H) := congrArg (genP P) (show (fun y => y ∈ L) = backP P Q Is H from by subst hte; subst hL; exact HC.out.2.2.2.2)
      have hLV : ∀ y ∈ L, Vec P.orders y := fun y hy => by
        rw [hL, backL_mem] at hy
        obtain ⟨j, _, h2, _⟩ := hy
        rw [h2]; exact elAt_vec hP _ (by omega)
      have HM := Lib.hid (And.intro hmem hLV); clear hmem hLV hL hO
      obtain ⟨az, capz, hvz, _, _⟩ := Sl.shape hO1
      subst hvz
      go_wp2_with fail
      clear c0 c1 c2 c3 c4 c5 c6
      refine Calls.mono (l12Close_ok P GP w1 _ _ L Sh _ ⟨_, _, _, rfl, h10.ext hg01⟩ hO1 HM.out.2 (by omega)) ?_
      rintro e2 w2 ⟨v2, rfl, hg2, hR⟩
      rw [HM.out.1] at hR
      go_wp2
      go_ret
      exact ⟨_, rfl, grown_trans hg0 (grown_trans hg01 hg2), hR⟩

set_option maxRecDepth 100000 in
set_option maxHeartbeats 4000000 in
theorem sKer_ok (P Q : Pr) (Is : List (List Int)) (w : World) (hv : Value) (Sh : Nat → Prop) (hh : HomV Sh w hv P Q Is) :
    Calls Tryz.prog 14 #[hv] w (Ret w fun w' v => ∃ a n c, v = .tuple #[.slice a n c, .int .i64 (kerC P Q Is)] ∧ Rows2 Any w' (.slice a n c) (kerL P Q Is)) := by
  obtain ⟨vo, vp, vc, uo, up, uc, vi, rfl, h1, h2, h3⟩ := hh
  have hg0 : Ext w (w.alloc (.cells #[vo, vp, vc, uo, up, uc, vi] 34)) := World.grownBy_alloc _ _ _
  have hC := HomC.made w 34 vo vp vc uo up uc vi
  have h10 := h1.ext hg0
  have h20 := h2.ext hg0
  have h30 := Rows2.ext h3 hg0
  have HC := Lib.hid hC
  obtain ⟨c0, c1, c2, c3, c4, c5, c6⟩ := hC
  go_enter Tryz.func14, Tryz.ntmps14
  go_wp2_with fail
  clear c0 c1 c2 c3 c4 c5 c6
  generalize hww : w.alloc (.cells #[vo, vp, vc, uo, up, uc, vi] 34) = w0 at *
  clear hww
  refine Calls.mono (sIsHom_ok P Q Is w0 _ Sh ⟨_, _, _, _, _, _, _, rfl, h10, h20, h30⟩) ?_
  rintro e1 w1 ⟨v1, rfl, hg1, r, rfl, hr⟩
  have hg01 := grown_trans hg0 hg1
  cases r with
  | false =>
    obtain ⟨hc, hL⟩ := ker_no (P := P) (Q := Q) (Is := Is) (fun h => by have := hr.2 h; cases this)
    have HD := Lib.hid (And.intro hc hL); clear hc hL hr
    go_wp2
    go_ret2
    exact ⟨_, rfl, hg01, none, 0, 0, by rw [HD.out.1]; rfl, by rw [HD.out.2]; exact ⟨none, 0, rfl, ⟨by simp, by simp, fun _ => rfl⟩, fun i hi => by simp at hi⟩⟩
  | true =>
    have hH := hr.1 rfl
    obtain ⟨hc, hL⟩ := ker_yes hH
    have GP := grp_of_r hH.1
    have GQ := grp_of_r hH.2.1
    have hnil : Rows2 Any w1 (.slice none 0 0) (cseq Q (fun x => x = zeros Q.orders.length)) := by
      rw [cseq_trivial GQ]; exact ⟨none, 0, rfl, ⟨by simp, by simp, fun _ => rfl⟩, fun i hi => by simp at hi⟩
    have HD := Lib.hid (And.intro hc (And.intro hL hH)); clear hc hL hr hH
    obtain ⟨c0, c1, c2, c3, c4, c5, c6⟩ := HC.out.ext hg1
    go_wp2_with fail
    clear c0 c1 c2 c3 c4 c5 c6
    refine Calls.mono (l16Back_ok P Q GP GQ Is _ GQ.sub_one w1 _ _ Sh Any ⟨_, _, _, _, _, _, _, rfl, h10.ext hg1, h20.ext hg1, Rows2.ext h30 hg1⟩ HD.out.2.2.2.2.2.1 HD.out.2.2.2.2.1 hnil) ?_
    rintro e2 w2 ⟨v2, rfl, hg2, hO⟩
    rw [← HD.out.2.1] at hO
    obtain ⟨az, capz, hvz, _, _⟩ := Sl.shape hO
    subst hvz
    go_wp2
    go_ret2
    exact ⟨_, rfl, grown_trans hg01 hg2, _, _, _, by rw [HD.out.1]; rfl, hO⟩

set_option maxRecDepth 100000 in
set_option maxHeartbeats 4000000 in
theorem sPre_ok (P Q : Pr) (Is V : List (List Int)) (w : World) (hv vv : Value) (Sh Sv : Nat → Prop) (hh : HomV Sh w hv P Q Is) (hvr : Rows2 Sv w vv V) :
    Calls Tryz.prog 23 #[hv, vv] w (Ret w fun w' v => ∃ a n c, v = .tuple #[.slice a n c, .int .i64 (preC P Q Is V)] ∧ Rows2 Any w' (.slice a n c) (preL P Q Is V)) := by
  obtain ⟨vo, vp, vc, uo, up, uc, vi, rfl, h1, h2, h3⟩ := hh
  obtain ⟨av, capv, rfl, _, _⟩ := Sl.shape hvr
  have hg0 : Ext w (w.alloc (.cells #[vo, vp, vc, uo, up, uc, vi] 34)) := World.grownBy_alloc _ _ _
  have hC := HomC.made w 34 vo vp vc uo up uc vi
  have h10 := h1.ext hg0
  have h20 := h2.ext hg0
  have h30 := Rows2.ext h3 hg0
  have HC := Lib.hid hC
  obtain ⟨c0, c1, c2, c3, c4, c5, c6⟩ := hC
  go_enter Tryz.func23, Tryz.ntmps23
  go_wp2_with fail
  clear c0 c1 c2 c3 c4 c5 c6
  generalize hww : w.alloc (.cells #[vo, vp, vc, uo, up, uc, vi] 34) = w0 at *
  clear hww
  refine Calls.mono (sIsHom_ok P Q Is w0 _ Sh ⟨_, _, _, _, _, _, _, rfl, h10, h20, h30⟩) ?_
  rintro e1 w1 ⟨v1, rfl, hg1, r, rfl, hr⟩
  have hg01 := grown_trans hg0 hg1
  cases r with
  | false =>
    obtain ⟨hc, hL⟩ := pre_no (P := P) (Q := Q) (Is := Is) (V := V) (fun h => by have := hr.2 h.1; cases this)
    have HD := Lib.hid (And.intro hc hL); clear hc hL hr
    go_wp2
    go_ret2
    exact ⟨_, rfl, hg01, none, 0, 0, by rw [HD.out.1]; rfl, by rw [HD.out.2]; exact ⟨none, 0, rfl, ⟨by simp, by simp, fun _ => rfl⟩, fun i hi => by simp at hi⟩⟩
  | true =>
    have hH := hr.1 rfl
    have GP := grp_of_r hH.1
    have GQ := grp_of_r hH.2.1
    have HH := Lib.hid hH; clear hr hH
    obtain ⟨c0, c1, c2, c3, c4, c5, c6⟩ := HC.out.ext hg1
    go_wp2_with fail
    clear c0 c1 c2 c3 c4 c5 c6
    refine Calls.mono (l12Is_ok Q GQ w1 _ _ V Sh Sv ⟨_, _, _, rfl, h20.ext hg1⟩ (Rows2.ext hvr hg01)) ?_
    rintro e2 w2 ⟨v2, rfl, hg2, r2, rfl, hr2⟩
    have hg12 := grown_trans hg1 hg2
    have hg02 := grown_trans hg01 hg2
    cases r2 with
    | false =>
      obtain ⟨hc, hL⟩ := pre_no (P := P) (Q := Q) (Is := Is) (V := V) (fun h => by have := hr2.2 h.2; cases this)
      have HD := Lib.hid (And.intro hc hL); clear hc hL hr2
      go_wp2
      go_ret2
      exact ⟨_, rfl, hg02, none, 0, 0, by rw [HD.out.1]; rfl, by rw [HD.out.2]; exact ⟨none, 0, rfl, ⟨by simp, by simp, fun _ => rfl⟩, fun i hi => by simp at hi⟩⟩
    | true =>
      have hS := hr2.1 rfl
      obtain ⟨hc, hL⟩ := pre_yes (P := P) (Q := Q) (Is := Is) (V := V) ⟨HH.out, hS⟩
      have hvr2 : Rows2 Sv w2 (.slice av V.length capv) (cseq Q (gU Q V)) := by rw [← hS.2]; exact Rows2.ext hvr hg02
      have HD := Lib.hid (And.intro hc (And.intro hL hS)); clear hc hL hr2 hS
      obtain ⟨c0, c1, c2, c3, c4, c5, c6⟩ := HC.out.ext hg12
      go_wp2_with fail
      clear c0 c1 c2 c3 c4 c5 c6
      refine Calls.mono (l16Back_ok P Q GP GQ Is (gU Q V) (GQ.subB HD.out.2.2) w2 _ _ Sh Sv ⟨_, _, _, _, _, _, _, rfl, h10.ext hg12, h20.ext hg12, Rows2.ext h30 hg12⟩ HH.out.2.2.2.1 HH.out.2.2.1 hvr2) ?_
      rintro e3 w3 ⟨v3, rfl, hg3, hO⟩
      rw [← HD.out.2.1] at hO
      obtain ⟨az, capz, hvz, _, _⟩ := Sl.shape hO
      subst hvz
      go_wp2
      go_ret2
      exact ⟨_, rfl, grown_trans hg02 hg3, _, _, _, by rw [HD.out.1]; rfl, hO⟩

end Go.Proofs.YtchbegeklckgnaaGreat
