/-
  SylowSystem: the reference's side.
-/
import Derived.Test.YtdklekdpdbjfiaaGreatSSyI
import Derived.Test.YtdklekdpdbjfiaaGreatK9
import Derived.Test.YtdklekdpdbjfiaaGreatSRelsA
namespace Go.Proofs.YtdklekdpdbjfiaaGreat
open Go.RowKit

theorem wp_of_step {P : Program} {ops : Array Oper} {rest : List Oper} {o : Oper} {a : Act} {Q : Exit → Act → World → Prop} {w : World} (hgd : o.guard = none)
    (h : if Region.wanted o (yielded ops a.tmps) = true then Oper.wp P o a w (wpList P ops Q rest) Q else False) : wpList P ops Q (o :: rest) a w := by
  have hw : Region.wanted o (yielded ops a.tmps) = true := by simp [Region.wanted, hgd]
  rw [if_pos hw] at h
  show if Region.wanted o (yielded ops a.tmps) = true then _ else _
  rw [if_pos hw]
  exact .inl h

set_option maxRecDepth 100000 in
theorem l01OwnN_ok (w : World) (v : Value) (l : List Int) (S : Nat → Prop) (hv : Ints S w v l) (hl : l.length ≤ 1048576) :
    Calls Tryz.prog 92 #[v] w (Ret w fun w' r => Own w.heap.size w' r l ∧ ∃ g cap, r = .slice (some ⟨g, 0, none⟩) l.length cap) := by
  obtain ⟨a, cap, rfl, _, _⟩ := hv.shape
  go_enter Tryz.func92, Tryz.ntmps92
  go_wp2_with (at_builtin; refine wp_app_ints rfl _ _ rfl w.heap.size _ [] rfl (World.ownsRow_lit w #[] 0 (Nat.le_refl _) (by decide) rfl) _ l rfl S (hv.ext (World.grownBy_alloc _ _ _)) (by simp; omega) (by simp) ?_; intro v' w1 ho1 hg1 hn1)
  go_ret
  refine ⟨_, rfl, grown_own (World.grownBy_alloc _ _ _) hg1 (fun j hj hlt => by have := own_blk hj; omega), ho1, ?_⟩
  have ho2 := ho1
  obtain ⟨_, ⟨h1, _⟩ | ⟨g, cap', cur, h1, _⟩⟩ := ho1
  · have := (hn1.1 h1).1
    cases this
  · exact ⟨g, cap', by simpa using h1⟩

theorem sub_rows {P : Pr} (G : Grp P) {u : List (List Int)} (h : SubB P u) : ∀ r ∈ u, 0 < r.length := fun r hr => by
  have h1 := G.sub_len h
  have h2 := (h.1 r hr).1
  have h3 := List.length_pos_of_mem hr
  omega
theorem sl_rows3 {S : Nat → Prop} {w : World} {v : Value} {xs : List (List (List Int))} (h : Sl R2n S w v xs) : Rows3 Any w v xs := by
  obtain ⟨a, cap, rfl, hl, hc⟩ := h
  exact ⟨a, cap, rfl, hl, fun i hi => by
    obtain ⟨b, off, u, e1, e2, e3, e4, e5⟩ := hc i hi
    exact ⟨b, off, u, e1, trivial, e3, e4, e5.1⟩⟩
theorem sl_one {w : World} {u : Value} {X : List (List Int)} (h : R2n w u X) : Sl R2n Any (w.alloc (.cells #[u] 23)) (.slice (some ⟨w.heap.size, 0, none⟩) 1 1) [X] := by
  refine ⟨_, 1, rfl, ⟨by simp, by simp, fun h => by cases h⟩, fun i hi => ?_⟩
  have : i = 0 := by simpa using hi
  subst this
  exact ⟨w.heap.size, 0, u, rfl, trivial, by simp, by rw [World.cell?_alloc_at _ _ _ _ rfl]; rfl, zRows.kp h (Kp.of (World.grownBy_alloc _ _ _))⟩

set_option maxRecDepth 100000 in
set_option maxHeartbeats 8000000 in
theorem sSys_ok (P : Pr) (w : World) (pv : Value) (Sp : Nat → Prop) (hpv : PresV Sp w pv P) :
    Calls Tryz.prog 49 #[pv] w (Ret w fun w' r => ∃ a n c, r = .tuple #[.slice a n c, .int .i64 (sysC P)] ∧ Rows3 Any w' (.slice a n c) (sysL P)) := by
  obtain ⟨vo, vp, vc, rfl, h3⟩ := hpv
  have hp0 := PresP.box h3 31
  have hg0 : Ext w (w.alloc (.cells #[vo, vp, vc] 31)) := World.grownBy_alloc _ _ _
  obtain ⟨vo6, vp6, vc6, _, _, hc0, hc1, hc2, h36⟩ := hp0.at
  simp only [Nat.zero_add] at hc1 hc2
  have hbx : ∀ w', Ext (w.alloc (.cells #[vo, vp, vc] 31)) w' → w'.cell? ⟨w.heap.size, 0, none⟩ = some vo6 ∧ w'.cell? ⟨w.heap.size, 1, none⟩ = some vp6 ∧ w'.cell? ⟨w.heap.size, 2, none⟩ = some vc6 := fun w' h => ⟨h.cell hc0 (by simp), h.cell hc1 (by simp), h.cell hc2 (by simp)⟩
  have HB := Lib.hid hbx; clear hbx hp0
  have hnil : Ints Any (w.alloc (.cells #[vo, vp, vc] 31)) (.slice none 0 0) [] := ⟨none, 0, rfl, ⟨by simp, by simp, fun _ => rfl⟩, fun i hi => by simp at hi⟩
  have hcode := l20Code_ok P [] _ (.agg #[vo6, vp6, vc6]) _ Any Any ⟨_, _, _, rfl, h36⟩ hnil
  clear hnil
  go_enter Tryz.func49, Tryz.ntmps49
  go_wp2_with fail
  clear hc0 hc1 hc2
  generalize hw0 : w.alloc (.cells #[vo, vp, vc] 31) = w0 at *
  clear hw0
  refine Calls.mono hcode ?_
  rintro e1 w1 ⟨v1, rfl, hg1, rfl⟩
  clear hcode
  have hgw1 := grown_trans hg0 hg1
  obtain ⟨c, hc⟩ : ∃ c, c = hcC P [] := ⟨_, rfl⟩
  rw [← hc]
  by_cases hz : c = 0
  · have hz' : hcC P [] = 0 := by rw [← hc]; exact hz
    have G := grp_of_r (hc_zero hz').1
    have hsys := sys_ok hz'
    have hsub := syT_sub hz'
    have hoc := hc_oth hz'
    have hdl := dvs_len (ordP P)
    have HC := Lib.hid (And.intro hc hz'); clear hc hz'
    have HV := Lib.hid (And.intro hsys (And.intro hsub hoc)); clear hsys hsub hoc
    subst hz
    have hdv := l20Divisors_ok P G.v w1 (.agg #[vo6, vp6, vc6]) Any ⟨_, _, _, rfl, Pres3.ext h36 hg1⟩
    obtain ⟨hc0, hc1, hc2⟩ := HB.out _ hg1
    go_wp2_with fail
    clear hc0 hc1 hc2
    refine Calls.mono hdv ?_
    rintro e2 w2 ⟨v2, rfl, hg2, hD⟩
    have hDi := hD.ints (by omega)
    obtain ⟨da, dc, rfl, hdc, _⟩ := hDi.shape
    clear hdv hD
    have hg02 := grown_trans hg1 hg2
    obtain ⟨n, hn⟩ : ∃ n, n = (dvs (ordP P)).length := ⟨_, rfl⟩
    rw [← hn] at hdl hDi hdc ⊢
    have hl0 : ZL R2n 23 w2.heap.size (w2.alloc (.cells #[] 23)) (.slice (some ⟨w2.heap.size, 0, none⟩) 0 0) [] := ZL.lit0 (Nat.le_refl _) rfl
    have HN := Lib.hid hn; clear hn
    have HL0 := Lib.hid hl0; clear hl0
    go_wp2
    go_loopw [6, 7] (fun hv iv wr => ∃ (k : Nat) (vh : Value), vh = hv ∧ iv = .int .i64 (k : Int) ∧ k ≤ n ∧ Ext w2 wr ∧ ZL R2n 23 w2.heap.size wr vh (hsTo P k)) (fun _ iv _ => n - (intOf iv).toNat)
    case atStart => exact ⟨0, _, rfl, by go_num, Nat.zero_le _, World.grownBy_alloc _ _ _, HL0.out⟩
    case round =>
      obtain ⟨k, vh, rfl, rfl, hk, hg, hH⟩ := hrel
      have hhl := hsTo_len P k
      have hgr := grown_trans hg02 hg
      by_cases hlt : k < n
      · have hlt' : (k : Int) < (n : Int) := by omega
        obtain ⟨k1, hk1⟩ : ∃ k1 : Int, k1 = (k : Int) + 1 := ⟨_, rfl⟩
        have hw1 : IntKind.i64.wrap ((k : Int) + 1) = k1 := by rw [IntWalk.i64_in _ (by omega), hk1]
        have hsh : ∀ w', (Instr.slice 22 (.slice da n dc) none (some (.int .i64 (k : Int))) none).run Tryz.prog w' = .ok (.slice da k dc) w' := fun w' => by
          have h := run_head w' da n dc (k : Int) (by omega) (by omega)
          rw [Int.toNat_natCast] at h; exact h
        have htl := subSl_ints hDi (k + 1) n (by omega) (by rw [← HN.out]; exact Nat.le_refl _)
        have hst : ∀ w', (Instr.slice 22 (.slice da n dc) (some (.int .i64 k1)) none none).run Tryz.prog w' = .ok (subSl (.slice da n dc) (k + 1) n) w' := fun w' => by
          have h := run_tail w' da n dc k1 (by omega) (by omega)
          rw [show k1.toNat = k + 1 by omega] at h; exact h
        have hhd := head_ints hDi k (by rw [← HN.out]; exact hk)
        rw [show (dvs (ordP P)).take n = dvs (ordP P) from List.take_of_length_le (by rw [HN.out]; exact Nat.le_refl _)] at htl
        obtain ⟨sa, sc, hsv, _, _⟩ := htl.shape
        rw [hsv] at htl hst
        obtain ⟨sn, hsn⟩ : ∃ sn, sn = ((dvs (ordP P)).drop (k + 1)).length := ⟨_, rfl⟩
        rw [← hsn] at htl hst
        have heq : oth P k = (dvs (ordP P)).take k ++ (dvs (ordP P)).drop (k + 1) := rfl
        have hol := oth_len P k
        have hlx : ((dvs (ordP P)).take k).length = k := by rw [List.length_take, ← HN.out]; omega
        have hly : ((dvs (ordP P)).drop (k + 1)).length ≤ 4 := by rw [List.length_drop, ← HN.out]; omega
        have hhd1 := Ints.ext hhd hg
        have htl1 := Ints.ext htl hg
        obtain ⟨D1, hD1⟩ : ∃ D1, D1 = (dvs (ordP P)).take k := ⟨_, rfl⟩
        obtain ⟨D2, hD2⟩ : ∃ D2, D2 = (dvs (ordP P)).drop (k + 1) := ⟨_, rfl⟩
        rw [← hD1] at hhd1 heq hlx
        rw [← hD2] at htl1 heq hly
        have HX := Lib.hid (And.intro heq (And.intro (HV.out.2.2 k) (And.intro hlx hly))); clear heq hlx hly hD1 hD2 hsv hsn hhd htl hk1
        go_wp2
        go_region_held3 (fun w' => Ext wr w') (first | exact grown_drew _ _ | exact Ext.refl _ | assumption)
          (first
            | (go_at_call 92; refine Calls.mono (Calls.rel (w0 := wr) (by first | assumption | exact grown_drew _ _) (l01OwnN_ok _ _ D1 Any (Ints.ext hhd1 (by first | assumption | exact grown_drew _ _)) (by have := HX.out.2.2.1; omega))) ?_; rintro e3 w3 ⟨v3, rfl, hg3, hs3, hO3, og, ocap, rfl⟩)
            | (refine step_app_list rfl _ _ rfl wr.heap.size og ocap _ D1 D2 rfl rfl (hO3.weak (by first | exact Nat.le_refl _ | simp)) _ Any (Ints.ext htl1 hg3) rfl (by have := HX.out.2.2; omega) hg3.size ?_; intro v4 w4 hO4 hg4; have hgr4 : Ext wr w4 := grown_own hg3 hg4 (fun j hj hjl => by have h1 := (hO3.lt og rfl).1; cases hj; simp at h1; omega)))
        clear hsh hst hw1
        have hgr4 : Ext wr w4 := hgr4
        have heq := HX.out.1
        rw [← heq] at hO4
        have hOi := hO4.ints (by omega)
        obtain ⟨oa, oc, hov, _, _⟩ := hOi.shape
        subst hov
        have hg04 := grown_trans hgr hgr4
        have hh := l20All_ok P G (oth P k) (prSet_oth P k) w4 (.agg #[vo6, vp6, vc6]) _ Any Any ⟨_, _, _, rfl, Pres3.ext h36 hg04⟩ hOi
        obtain ⟨on, hon⟩ : ∃ on, on = (oth P k).length := ⟨_, rfl⟩
        rw [← hon] at hh ⊢
        clear hOi hO4 hon hol heq hO3 hhd1 htl1
        obtain ⟨hc0, hc1, hc2⟩ := HB.out _ hg04
        go_wp2_with fail
        clear hc0 hc1 hc2
        refine Calls.mono hh ?_
        rintro e5 w5 ⟨v5, rfl, hg5, L, hL, hLl, hO⟩
        clear hh
        obtain ⟨la, lc, hlv, _, _⟩ := Sl.shape hO
        subst hlv
        have hall : hfL P (oth P k) = gt L 0 := by unfold hfL; rw [hl_ok HX.out.2.1 hL]
        have hpos := hL.pos G
        have hsb := ((hL.2 _).1 (gt_mem hpos)).1
        obtain ⟨bl, ol, a2, cap2, hal, _, hbl, hcl, hru⟩ := Rows3.at hO 0 hpos
        subst hal
        have hp1 : (0 : Int) < L.length := by omega
        have hgr5 := grown_trans hgr4 hg5
        have hcl : w5.cell? ⟨bl, ol, none⟩ = some (.slice a2 (gt L 0).length cap2) := hcl
        have hR2 : R2n w5 (.slice a2 (gt L 0).length cap2) (gt L 0) := ⟨Rows2.sub hru (fun _ _ _ => trivial), sub_rows G hsb⟩
        have hst2 : hsTo P (k + 1) = hsTo P k ++ [gt L 0] := by rw [hsTo_succ, hall]
        obtain ⟨X, hX⟩ : ∃ X, X = gt L 0 := ⟨_, rfl⟩
        rw [← hX] at hcl hR2 hst2
        have HR := Lib.hid (And.intro hst2 (sl_one hR2)); clear hst2 hR2 hO hall hX hL hru hsb
        have hHlt := hH.lt
        have hga : Ext w5 (w5.alloc (.cells #[.slice a2 X.length cap2] 23)) := World.grownBy_alloc _ _ _
        have hH5 := (hH.ext zRows hgr5).ext zRows hga
        have hg25 := grown_trans hg (grown_trans hgr5 hga)
        obtain ⟨gh, ch, hvh⟩ := hH.shape
        have HV5 := Lib.hid (And.intro hga (And.intro hH5 hg25)); clear hga hH5 hg25
        rw [hhl] at hvh
        subst hvh
        go_wp2_with (first | (at_builtin; refine wp_of_step rfl (step_app_zl zRows 24 23 24 und_r3 Tryz.infoR3 (by decide) rfl _ _ rfl w2.heap.size _ (hsTo P k) [X] rfl HV5.out.2.1 _ Any HR.out.2 rfl (by simp; omega) HV5.out.2.2.size ?_); intro g6 cap6 w6 hO6 hg6 hk6))
        clear hcl
        have hgx : Ext w2 w6 := grown_own HV5.out.2.2 hg6 (fun j hj hjl => by have := (hHlt j hj).1; omega)
        rw [← HR.out.1] at hO6
        rw [hsTo_len] at hO6
        go_roundw
        case rel => exact ⟨k + 1, _, rfl, by go_num, by omega, hgx, by first | exact hO6 | (rw [← HR.out.1, hsTo_len]; exact hO6)⟩
        case measure => simp [intOf]; omega
      · have hke : k = n := by omega
        subst hke
        have hH3 : Rows3 Any wr vh (hsTo P k) := sl_rows3 (hH.sl (by omega))
        obtain ⟨ha, hcp, hvh, _, _⟩ := Sl.shape hH3
        rw [hhl] at hvh
        subst hvh
        obtain ⟨wm, rfl⟩ : ∃ wm : World, wm = wr := ⟨_, rfl⟩
        obtain ⟨n, rfl⟩ : ∃ n, n = k := ⟨_, rfl⟩
        have HHL := Lib.hid hhl; clear hhl hH hlt
        have hl1 : ZL R2n 23 wm.heap.size (wm.alloc (.cells #[] 23)) (.slice (some ⟨wm.heap.size, 0, none⟩) 0 0) [] := ZL.lit0 (Nat.le_refl _) rfl
        have HL1 := Lib.hid hl1; clear hl1
        go_wp2
        go_loopw [9, 10] (fun ov iv wr => ∃ (i : Nat) (vo : Value), vo = ov ∧ iv = .int .i64 (i : Int) ∧ i ≤ n ∧ Ext wm wr ∧ ZL R2n 23 wm.heap.size wr vo (syTo P i)) (fun _ iv _ => n - (intOf iv).toNat)
        case atStart => exact ⟨0, _, rfl, by go_num, Nat.zero_le _, World.grownBy_alloc _ _ _, HL1.out⟩
        case round =>
          obtain ⟨i, vo, rfl, rfl, hi, hgm, hO⟩ := hrel
          have hsl := syTo_len P i
          by_cases hlt : i < n
          · have hlt' : (i : Int) < (n : Int) := by omega
            obtain ⟨wo, rfl⟩ : ∃ wo : World, wo = wr := ⟨_, rfl⟩
            have hgo := grown_trans hgr hgm
            have hwh := l12Whole_ok P G.v wo (.agg #[vo6, vp6, vc6]) Any ⟨_, _, _, rfl, Pres3.ext h36 hgo⟩
            rw [← G.cseq_all, show Vec P.orders = syT P i 0 from rfl] at hwh
            obtain ⟨hc0, hc1, hc2⟩ := HB.out _ hgo
            go_wp2_with fail
            clear hc0 hc1 hc2
            refine Calls.mono hwh ?_
            rintro e5 w5 ⟨v5, rfl, hg5, hU⟩
            clear hwh
            obtain ⟨ua, uc, hvu, _, _⟩ := Sl.shape hU
            subst hvu
            go_wp2
            go_loopw [11, 12] (fun uv jv wr => ∃ (j : Nat) (vu : Value), vu = uv ∧ jv = .int .i64 (j : Int) ∧ j ≤ n ∧ Ext wo wr ∧ Rows2 Any wr vu (cseq P (syT P i j))) (fun _ jv _ => n - (intOf jv).toNat)
            case atStart => exact ⟨0, _, rfl, by go_num, Nat.zero_le _, hg5, hU⟩
            case round =>
              clear hU
              obtain ⟨j, vu, rfl, rfl, hj, hgj, hU⟩ := hrel
              obtain ⟨ua2, uc2, hvu, _, _⟩ := Sl.shape hU
              have hgoj := grown_trans hgo hgj
              by_cases hltj : j < n
              · have hltj' : (j : Int) < (n : Int) := by omega
                obtain ⟨bl, ol, a2, cap2, hal, _, hbl, hcl, hru⟩ := Rows3.at hH3 j (by rw [HHL.out]; exact hltj)
                cases hal
                have hgmj := grown_trans hgm hgj
                have hru2 := Rows2.ext hru hgmj
                have hgt := hsTo_gt P hltj
                by_cases hji : j = i
                · have hst : syT P i (j + 1) = syT P i j := by show (if j = i then syT P i j else _) = _; rw [if_pos hji]
                  have HS := Lib.hid hst; clear hst hcl hru hru2
                  have hne : ((j : Int) != (i : Int)) = false := by rw [hji]; simp
                  clear hgt
                  subst hvu
                  have HJ := Lib.hid hji; clear hji
                  go_wp2
                  go_roundw
                  case rel => exact ⟨j + 1, _, rfl, by go_num, by omega, hgj, by rw [HS.out]; exact hU⟩
                  case measure => simp [intOf]; omega
                · have hst : syT P i (j + 1) = fun x => syT P i j x ∧ gP P (hfL P (oth P j)) x := by show (if j = i then syT P i j else _) = _; rw [if_neg hji]
                  have hb := hf_sub (HV.out.2.2 j)
                  rw [← hgt] at hb hst
                  have eb : cseq P (gP P (gt (hsTo P n) j)) = gt (hsTo P n) j := hb.2.symm
                  have e4 : ∀ w', Ext wr w' → w'.cell? ⟨bl, ol + j, none⟩ = some (.slice a2 (gt (hsTo P n) j).length cap2) := fun w' h => (grown_trans hgmj h).cell hcl (by simp)
                  have hlb : (gt (hsTo P n) j).length = (cseq P (gP P (gt (hsTo P n) j))).length := congrArg List.length hb.2
                  rw [hlb] at e4
                  rw [← eb] at hru2
                  subst hvu
                  have hne : ((j : Int) != (i : Int)) = true := by simp; omega
                  have e1 : ∀ w', Ext wr w' → w'.cell? ⟨w.heap.size, 0, none⟩ = some vo6 := fun w' h => (HB.out w' (grown_trans hgoj h)).1
                  have e2 : ∀ w', Ext wr w' → w'.cell? ⟨w.heap.size, 1, none⟩ = some vp6 := fun w' h => (HB.out w' (grown_trans hgoj h)).2.1
                  have e3 : ∀ w', Ext wr w' → w'.cell? ⟨w.heap.size, 2, none⟩ = some vc6 := fun w' h => (HB.out w' (grown_trans hgoj h)).2.2
                  have HS := Lib.hid (And.intro hb (And.intro (HV.out.2.1 i j) hst)); clear hb hst hcl hlb hgt hru
                  have HE := Lib.hid eb; clear eb
                  go_wp2
                  go_region_held3 (fun w' => Ext wr w') (first | exact grown_drew _ _ | exact Ext.refl _ | assumption)
                    (first
                      | (go_at_call 94; refine Calls.mono (Calls.rel (w0 := wr) (by assumption) (l13Meet_ok P G _ _ _ _ (syT P i j) (gP P (gt (hsTo P n) j)) Any Any Any HS.out.2.1 (G.subB HS.out.1) ⟨_, _, _, rfl, Pres3.ext h36 (grown_trans hgoj (by assumption))⟩ (Rows2.ext hU (by assumption)) (Rows2.sub (Rows2.ext hru2 (by assumption)) (fun _ _ _ => trivial)))) ?_; rintro e6 w6 ⟨v6, rfl, hg6, hs6, hO6⟩))
                  clear e1 e2 e3 e4
                  have hgj6 := grown_trans hgj hg6
                  go_wp2
                  go_roundw
                  case rel => exact ⟨j + 1, _, rfl, by go_num, by omega, hgj6, by rw [HS.out.2.2]; exact hO6⟩
                  case measure => simp [intOf]; omega
              · have hje : j = n := by omega
                subst hje
                have hst : syTo P (i + 1) = syTo P i ++ [cseq P (syT P i j)] := by rw [syTo_succ, ← HN.out]
                have hlu := G.cseq_len (HV.out.2.1 i j)
                have hR2 : R2n wr vu (cseq P (syT P i j)) := ⟨hU, fun r hr => by
                  have h1 := (HV.out.2.1 i j).vec r ((G.seq_facts (HV.out.2.1 i j)).2.1 r hr)
                  have h3 := List.length_pos_of_mem hr
                  have h4 := h1.1
                  omega⟩
                obtain ⟨X, hX⟩ : ∃ X, X = cseq P (syT P i j) := ⟨_, rfl⟩
                rw [← hX] at hst hR2 hvu hlu
                have HR := Lib.hid (And.intro hst (sl_one hR2)); clear hst hU hX hR2
                have hHlt := hO.lt
                obtain ⟨xl, hxl⟩ : ∃ xl, xl = X.length := ⟨_, rfl⟩
                rw [← hxl] at hvu
                clear hxl
                subst hvu
                have hga : Ext wr (wr.alloc (.cells #[.slice ua2 xl uc2] 23)) := World.grownBy_alloc _ _ _
                have hH5 := (hO.ext zRows hgj).ext zRows hga
                have hg25 := grown_trans hgm (grown_trans hgj hga)
                obtain ⟨gh, ch, hvo⟩ := hO.shape
                rw [hsl] at hvo
                subst hvo
                have HV5 := Lib.hid (And.intro hga (And.intro hH5 hg25)); clear hga hH5 hg25
                go_wp2_with (first | (at_builtin; refine wp_of_step rfl (step_app_zl zRows 24 23 24 und_r3 Tryz.infoR3 (by decide) rfl _ _ rfl wm.heap.size _ (syTo P i) [X] rfl HV5.out.2.1 _ Any HR.out.2 rfl (by simp; omega) HV5.out.2.2.size ?_); intro g7 cap7 w7 hO7 hg7 hk7))
                have hgx : Ext wm w7 := grown_own HV5.out.2.2 hg7 (fun q hq hql => by have := (hHlt q hq).1; omega)
                rw [← HR.out.1] at hO7
                rw [syTo_len] at hO7
                go_roundw
                case rel => exact ⟨i + 1, _, rfl, by go_num, by omega, hgx, by first | exact hO7 | (rw [← HR.out.1, syTo_len]; exact hO7)⟩
                case measure => simp [intOf]; omega
          · have hie : i = n := by omega
            subst hie
            have hfin : sysL P = syTo P i := by rw [HV.out.1, ← HN.out]
            have hO3 := sl_rows3 (hO.sl (by omega))
            obtain ⟨ra, rc, hrv, _, _⟩ := Sl.shape hO3
            rw [hsl] at hrv
            subst hrv
            have HF := Lib.hid (And.intro hfin hO3); clear hfin hO hsl hO3
            go_wp2
            go_ret2
            exact ⟨_, rfl, grown_trans hg0 (grown_trans hgr hgm), _, _, _, by rw [show sysC P = 0 from HC.out.1.symm]; rfl, by rw [HF.out.1]; exact HF.out.2⟩
  · have hne : (c != 0) = true := by simpa using hz
    have HC := Lib.hid hc; clear hc
    go_wp2
    go_ret2
    exact ⟨_, rfl, hgw1, none, 0, 0, by rw [show sysC P = c from HC.out.symm]; rfl, by rw [sys_no (by rw [← HC.out]; exact hz)]; exact rows3_nil _⟩

end Go.Proofs.YtdklekdpdbjfiaaGreat
