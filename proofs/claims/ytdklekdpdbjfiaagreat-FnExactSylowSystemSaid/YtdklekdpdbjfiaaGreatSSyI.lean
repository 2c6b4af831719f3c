/-
  SylowSystem: the program's side.
-/
import Derived.Test.YtdklekdpdbjfiaaGreatSSyV
import Derived.Test.YtdklekdpdbjfiaaGreatSWholeW
import Derived.Test.YtdklekdpdbjfiaaGreatK9
import Derived.Test.YtdklekdpdbjfiaaGreatK8
namespace Go.Proofs.YtdklekdpdbjfiaaGreat
open Go.RowKit

theorem rows2_two {w : World} {v1 v2 : Value} {l1 l2 : List Int} (h1 : Ints Any w v1 l1) (h2 : Ints Any w v2 l2) : Rows2 Any (w.alloc (.cells #[v1, v2] 22)) (.slice (some ⟨w.heap.size, 0, none⟩) 2 2) [l1, l2] := by
  have hg : Ext w (w.alloc (.cells #[v1, v2] 22)) := World.grownBy_alloc _ _ _
  refine ⟨_, 2, rfl, ⟨by simp, by simp, fun h => by cases h⟩, fun i hi => ?_⟩
  have h01 : i = 0 ∨ i = 1 := by simp at hi; omega
  rcases h01 with rfl | rfl
  · exact ⟨w.heap.size, 0, v1, rfl, trivial, by simp, by rw [World.cell?_alloc_at _ _ _ _ rfl]; rfl, Ints.ext h1 hg⟩
  · exact ⟨w.heap.size, 0, v2, rfl, trivial, by simp, by rw [World.cell?_alloc_at _ _ _ _ rfl]; rfl, Ints.ext h2 hg⟩

noncomputable def sysC (P : Pr) : Int := hcC P []

set_option linter.unusedSimpArgs false in
set_option maxRecDepth 100000 in
set_option maxHeartbeats 8000000 in
theorem iSys_ok (P : Pr) (w : World) (pv : Value) (Sp : Nat → Prop) (hpv : PresV Sp w pv P) :
    Calls Tryz.prog 50 #[pv] w (Ret w fun w' r => ∃ a n c, r = .tuple #[.slice a n c, .int .i64 (sysC P)] ∧ SlO (fun F w u (x : List (List Int)) => RowsD F w u x) 23 w.heap.size w' (.slice a n c) (sysL P)) := by
  obtain ⟨vo, vp, vc, rfl, h3⟩ := hpv
  have hp0 := PresP.box h3 31
  have hg0 : Ext w (w.alloc (.cells #[vo, vp, vc] 31)) := World.grownBy_alloc _ _ _
  have hnil : Ints Any (w.alloc (.cells #[vo, vp, vc] 31)) (.slice none 0 0) [] := ⟨none, 0, rfl, ⟨by simp, by simp, fun _ => rfl⟩, fun i hi => by simp at hi⟩
  have hcode := hallCode_ok P [] _ _ _ Any Any hp0 hnil
  clear hnil
  go_enter Tryz.func50, Tryz.ntmps50
  go_wp2_with fail
  generalize hw0 : w.alloc (.cells #[vo, vp, vc] 31) = w0 at *
  clear hw0
  refine Calls.mono hcode ?_
  rintro e1 w1 ⟨v1, rfl, hg1, rfl⟩
  clear hcode
  have hgw1 := grown_trans hg0 hg1
  obtain ⟨c, hc⟩ : ∃ c, c = hcC P [] := ⟨_, rfl⟩
  rw [← hc]
  by_cases hz : c = 0
  · have hz' : hcC P [] = 0 := by rw [← hc]; exact hz
    have G := grp_of_r (hc_zero hz').1
    have hsys := sys_ok hz'
    have hsub := syT_sub hz'
    have hoc := hc_oth hz'
    have hdl := dvs_len (ordP P)
    have hor := orderOf_ok w1 _ P Any G.v (hp0.ext hg1)
    have hfc := factorsP_ok P G w1
    have HC := Lib.hid (And.intro hc hz'); clear hc hz'
    have HV := Lib.hid (And.intro hsys (And.intro hsub hoc)); clear hsys hsub hoc
    subst hz
    go_wp2_with fail
    refine Calls.mono hor ?_
    rintro e1 w1 ⟨rfl, rfl⟩
    go_wp2_with fail
    refine Calls.mono hfc ?_
    rintro e2 w2 ⟨v2, rfl, hg2, vd, ve, rfl, hD⟩
    have hDi := hD.ints (by omega)
    obtain ⟨da, dc, rfl, hdc, _⟩ := hDi.shape
    clear hor hfc hD
    obtain ⟨n, hn⟩ : ∃ n, n = (dvs (ordP P)).length := ⟨_, rfl⟩
    rw [← hn] at hdl hDi hdc ⊢
    have HN := Lib.hid hn; clear hn
    have hg02 := grown_trans hg1 hg2
    go_wp2
    go_loopw [7, 25] (fun hv iv wr => ∃ (k : Nat) (vh : Value), vh = hv ∧ iv = .int .i64 (k : Int) ∧ k ≤ n ∧ Ext w2 wr ∧ SlO (fun F w u (x : List (List Int)) => RowsD F w u x) 23 w2.heap.size wr vh (hsTo P k)) (fun _ iv _ => n - (intOf iv).toNat)
    case atStart => exact ⟨0, _, rfl, by go_num, Nat.zero_le _, Ext.refl _, SlO.nil _ _ _ _⟩
    case round =>
      obtain ⟨k, vh, rfl, rfl, hk, hg, hH⟩ := hrel
      have hhl := hsTo_len P k
      by_cases hlt : k < n
      · have hlt' : (k : Int) < (n : Int) := by omega
        obtain ⟨k1, hk1⟩ : ∃ k1 : Int, k1 = (k : Int) + 1 := ⟨_, rfl⟩
        have hw1 : IntKind.i64.wrap ((k : Int) + 1) = k1 := by rw [IntWalk.i64_in _ (by omega), hk1]
        have hsh : ∀ w', (Instr.slice 22 (.slice da n dc) none (some (.int .i64 (k : Int))) none).run Tryz.prog w' = .ok (.slice da k dc) w' := fun w' => by
          have h := run_head w' da n dc (k : Int) (by omega) (by omega)
          rw [Int.toNat_natCast] at h; exact h
        have htl := subSl_ints hDi (k + 1) n (by omega) (by rw [← HN.out]; exact Nat.le_refl _)
        have hst : ∀ w', (Instr.slice 22 (.slice da n dc) (some (.int .i64 k1)) none none).run Tryz.prog w' = .ok (subSl (.slice da n dc) (k + 1) n) w' := fun w' => by
          have h := run_tail w' da n dc k1 (by omega) (by omega)
          rw [show k1.toNat = k + 1 by omega] at h; exact h
        have hhd := head_ints hDi k (by rw [← HN.out]; exact hk)
        rw [show (dvs (ordP P)).take n = dvs (ordP P) from List.take_of_length_le (by rw [HN.out]; exact Nat.le_refl _)] at htl
        obtain ⟨sa, sc, hsv, _, _⟩ := htl.shape
        rw [hsv] at htl hst
        obtain ⟨sn, hsn⟩ : ∃ sn, sn = ((dvs (ordP P)).drop (k + 1)).length := ⟨_, rfl⟩
        rw [← hsn] at htl hst
        have heq : oth P k = [(dvs (ordP P)).take k, (dvs (ordP P)).drop (k + 1)].flatten := by unfold oth; simp
        have hb1 : ∀ u ∈ [(dvs (ordP P)).take k, (dvs (ordP P)).drop (k + 1)], u.length ≤ 1000 := fun u hu => by
          have := dvs_len (ordP P)
          simp only [List.mem_cons, List.not_mem_nil, or_false] at hu
          rcases hu with rfl | rfl
          · rw [List.length_take]; omega
          · rw [List.length_drop]; omega
        have hol := oth_len P k
        have hgd : Ext w2 wr.drew := grown_trans hg (grown_drew _ _)
        have hga : Ext wr.drew (wr.drew.alloc (.cells #[.slice da k dc, .slice sa sn sc] 22)) := World.grownBy_alloc _ _ _
        have hcc := concatInts_ok (wr.drew.alloc (.cells #[.slice da k dc, .slice sa sn sc] 22)) _ _ Any (rows2_two (Ints.ext hhd hgd) (Ints.ext htl hgd)) hb1 (by simp)
        rw [← heq] at hcc
        have HX := Lib.hid (And.intro hgd (And.intro hga (HV.out.2.2 k))); clear hsv hsn heq hb1 hhd htl hk1
        clear hgd hga
        have hHlt : ∀ j, vh.ownBlock = some j → w2.heap.size ≤ j := fun j hj => by
          obtain ⟨vs, _, _, h2, _⟩ := hH
          exact (h2.lt j hj).1
        go_wp2
        refine wp_region_held_drew (S := fun w' => Ext w2 w') (by kernel_rfl) (grown_trans hg (grown_drew _ _)) (fun hHeld => ?_)
        refine wpAnyH_take (i := 0) (v := ?va0_1) rfl (by kernel_rfl) (by kernel_rfl) (by kernel_rfl) (fun _ _ _ h => h) (Or.inl ⟨by rfl, ?hya0_1⟩) (by assumption) ?resta0_1
        case hya0_1 => (intro w hSw; (try dsimp only at hSw); go_simp; try with_reducible rfl)
        try simp only [Act.put, List.getElem_toArray, List.getElem_cons_succ, List.getElem_cons_zero, List.setIfInBounds_toArray, List.set_cons_zero, List.set_cons_succ]
        refine wpAnyH_take (i := 1) (v := ?va1_2) rfl (by kernel_rfl) (by kernel_rfl) (by kernel_rfl) (fun _ _ _ h => h) (Or.inl ⟨by rfl, ?hya1_2⟩) (by assumption) ?resta1_2
        case hya1_2 => (intro w hSw; (try dsimp only at hSw); go_simp; try with_reducible rfl)
        try simp only [Act.put, List.getElem_toArray, List.getElem_cons_succ, List.getElem_cons_zero, List.setIfInBounds_toArray, List.set_cons_zero, List.set_cons_succ]
        refine wpAnyH_take (i := 2) (v := ?va2_3) rfl (by kernel_rfl) (by kernel_rfl) (by kernel_rfl) (fun _ _ _ h => h) (Or.inl ⟨by rfl, ?hya2_3⟩) (by assumption) ?resta2_3
        case hya2_3 => (intro w hSw; (try dsimp only at hSw); go_simp; try with_reducible rfl)
        try simp only [Act.put, List.getElem_toArray, List.getElem_cons_succ, List.getElem_cons_zero, List.setIfInBounds_toArray, List.set_cons_zero, List.set_cons_succ]
        refine wpAnyH_take (i := 3) (v := ?va3_4) rfl (by kernel_rfl) (by kernel_rfl) (by kernel_rfl) (fun _ _ _ h => h) (Or.inl ⟨by rfl, ?hya3_4⟩) (by assumption) ?resta3_4
        case hya3_4 => (intro w hSw; (try dsimp only at hSw); go_simp; try with_reducible rfl)
        try simp only [Act.put, List.getElem_toArray, List.getElem_cons_succ, List.getElem_cons_zero, List.setIfInBounds_toArray, List.set_cons_zero, List.set_cons_succ]
        refine wpAnyH_take (i := 4) (v := ?va4_5) rfl (by kernel_rfl) (by kernel_rfl) (by kernel_rfl) (fun _ _ _ h => h) (Or.inl ⟨by rfl, ?hya4_5⟩) (by assumption) ?resta4_5
        case hya4_5 => (intro w hSw; (try dsimp only at hSw); go_simp; try with_reducible rfl)
        try simp only [Act.put, List.getElem_toArray, List.getElem_cons_succ, List.getElem_cons_zero, List.setIfInBounds_toArray, List.set_cons_zero, List.set_cons_succ]
        refine wpAnyH_take (i := 5) (v := ?va5_6) rfl (by kernel_rfl) (by kernel_rfl) (by kernel_rfl) (fun _ _ _ h => h) (Or.inl ⟨by rfl, ?hya5_6⟩) (by assumption) ?resta5_6
        case hya5_6 => (intro w hSw; (try dsimp only at hSw); go_simp; try with_reducible rfl)
        try simp only [Act.put, List.getElem_toArray, List.getElem_cons_succ, List.getElem_cons_zero, List.setIfInBounds_toArray, List.set_cons_zero, List.set_cons_succ]
        refine wpAnyH_take (i := 6) (v := ?va6_7) rfl (by kernel_rfl) (by kernel_rfl) (by kernel_rfl) (fun _ _ _ h => h) (Or.inl ⟨by rfl, ?hya6_7⟩) (by assumption) ?resta6_7
        case hya6_7 => (intro w hSw; (try dsimp only at hSw); go_simp; try with_reducible rfl)
        try simp only [Act.put, List.getElem_toArray, List.getElem_cons_succ, List.getElem_cons_zero, List.setIfInBounds_toArray, List.set_cons_zero, List.set_cons_succ]
        refine wpAnyH_take (i := 7) (v := ?va7_8) rfl (by kernel_rfl) (by kernel_rfl) (by kernel_rfl) (fun _ _ _ h => h) (Or.inl ⟨by rfl, ?hya7_8⟩) (by assumption) ?resta7_8
        case hya7_8 => (intro w hSw; (try dsimp only at hSw); go_simp; try with_reducible rfl)
        try simp only [Act.put, List.getElem_toArray, List.getElem_cons_succ, List.getElem_cons_zero, List.setIfInBounds_toArray, List.set_cons_zero, List.set_cons_succ]
        refine wpAnyH_ready (rs := [8]) (by kernel_rfl) (by simp) ?_
        refine AllReadyH.cons rfl (fun Kc hKc => ?_) AllReadyH.nil
        go_simp
        refine hKc.out _ _ ?_ (fun hHeld => ?_)
        · exact grown_trans hg (grown_trans (grown_drew _ _) (World.grownBy_alloc _ _ _))
        clear hKc Kc
        try simp only [Act.put, List.getElem_toArray, List.getElem_cons_succ, List.getElem_cons_zero, List.setIfInBounds_toArray, List.set_cons_zero, List.set_cons_succ]
        refine wpAnyH_ready (rs := [9]) (by kernel_rfl) (by simp) ?_
        refine AllReadyH.cons rfl (fun Kc hKc => ?_) AllReadyH.nil
        go_simp
        go_at_call 95
        refine Calls.mono hcc ?_
        rintro e3 w3 ⟨v3, rfl, hg3, hO3, _⟩
        clear hcc hsh hst hw1
        have hOi := hO3.ints (by omega)
        obtain ⟨oa, oc, rfl, _, _⟩ := hOi.shape
        have hgr3 : Ext wr w3 := grown_trans (grown_drew _ _) (grown_trans HX.out.2.1 hg3)
        have hg23 := grown_trans hg hgr3
        have hh := hallSubgroups_ok P G (oth P k) w3 _ _ Any Any (hp0.ext (grown_trans hg02 hg23)) hOi
        obtain ⟨on, hon⟩ : ∃ on, on = (oth P k).length := ⟨_, rfl⟩
        rw [← hon] at hh ⊢
        clear hOi hO3 hon hol
        go_wp2_with fail
        refine hKc.out _ _ ?_ (fun hHeld => ?_)
        · exact hg23
        clear hKc Kc
        try simp only [Act.put, List.getElem_toArray, List.getElem_cons_succ, List.getElem_cons_zero, List.setIfInBounds_toArray, List.set_cons_zero, List.set_cons_succ]
        refine wpAnyH_ready (rs := [10]) (by kernel_rfl) (by simp) ?_
        refine AllReadyH.cons rfl (fun Kc hKc => ?_) AllReadyH.nil
        go_simp
        go_at_call 77
        refine Calls.mono hh ?_
        rintro e4 w4 ⟨v4, rfl, hg4, L, hL, hO⟩
        clear hh
        have hall : hfL P (oth P k) = gt L 0 := by unfold hfL; rw [hl_ok HX.out.2.2 hL]
        have hpos := hL.pos G
        obtain ⟨g, cg, ua, uc, rfl, hcell, hDD⟩ := slo_first hO hpos
        have hp1 : (0 : Int) < L.length := by omega
        have hgr4 := grown_trans hgr3 hg4
        have hg24 := grown_trans hg23 hg4
        have hDD2 : RowsD (From wr.heap.size) w4 (.slice ua (gt L 0).length uc) (gt L 0) := rdRows.mono hDD (fun j hj hlt => ⟨Nat.le_trans hgr3.size hj, hlt, rfl⟩)
        have hst2 : hsTo P (k + 1) = hsTo P k ++ [gt L 0] := by rw [hsTo_succ, hall]
        obtain ⟨X, hX⟩ : ∃ X, X = gt L 0 := ⟨_, rfl⟩
        rw [← hX] at hcell hDD2 hst2
        have HR := Lib.hid (And.intro hst2 hDD2); clear hst2 hDD2 hDD hO hall hX hL
        go_wp2_with fail
        refine hKc.out _ _ ?_ (fun hHeld => ?_)
        · exact hg24
        clear hKc Kc
        try simp only [Act.put, List.getElem_toArray, List.getElem_cons_succ, List.getElem_cons_zero, List.setIfInBounds_toArray, List.set_cons_zero, List.set_cons_succ]
        refine wpAnyH_take (i := 11) (v := ?va11_9) rfl (by kernel_rfl) (by kernel_rfl) (by kernel_rfl) (fun _ _ _ h => h) (Or.inl ⟨by rfl, ?hya11_9⟩) (by assumption) ?resta11_9
        case hya11_9 => (intro w hSw; (try dsimp only at hSw); go_simp; try with_reducible rfl)
        try simp only [Act.put, List.getElem_toArray, List.getElem_cons_succ, List.getElem_cons_zero, List.setIfInBounds_toArray, List.set_cons_zero, List.set_cons_succ]
        refine wpAnyH_ready (rs := [12]) (by kernel_rfl) (by simp) ?_
        refine AllReadyH.cons rfl (fun Kc hKc => ?_) AllReadyH.nil
        go_simp
        refine hKc.out _ _ ?_ (fun hHeld => ?_)
        · exact hg24
        clear hKc Kc
        try simp only [Act.put, List.getElem_toArray, List.getElem_cons_succ, List.getElem_cons_zero, List.setIfInBounds_toArray, List.set_cons_zero, List.set_cons_succ]
        refine wpAnyH_ready (rs := [13]) (by kernel_rfl) (by simp) ?_
        refine AllReadyH.cons rfl (fun Kc hKc => ?_) AllReadyH.nil
        go_simp
        refine hKc.out _ _ ?_ (fun hHeld => ?_)
        · exact grown_trans hg24 (World.grownBy_alloc _ _ _)
        clear hKc Kc
        try simp only [Act.put, List.getElem_toArray, List.getElem_cons_succ, List.getElem_cons_zero, List.setIfInBounds_toArray, List.set_cons_zero, List.set_cons_succ]
        refine wpAnyH_ready (rs := [14]) (by kernel_rfl) (by simp) ?_
        refine AllReadyH.cons rfl (fun Kc hKc => ?_) AllReadyH.nil
        refine step_app_one rdRows 24 23 (.slice none 0 0) 24 und_r3 Tryz.infoR3 rfl (by decide) rfl _ _ rfl w2.heap.size wr w4 _ _ (hsTo P k) X rfl hH hgr4 HR.out.2 rfl rfl (by omega) hg.size ?_
        intro v5 w5 hO5 hg5 hg6
        have hgx : Ext w2 w5 := grown_own hg hg5 (fun j hj hjl => by have := hHlt j hj; omega)
        refine hKc.out _ _ ?_ (fun hHeld => ?_)
        · exact hgx
        clear hKc Kc
        try simp only [Act.put, List.getElem_toArray, List.getElem_cons_succ, List.getElem_cons_zero, List.setIfInBounds_toArray, List.set_cons_zero, List.set_cons_succ]
        refine wpAnyH_take (i := 15) (v := ?va15_10) rfl (by kernel_rfl) (by kernel_rfl) (by kernel_rfl) (fun _ _ _ h => h) (Or.inl ⟨by rfl, ?hya15_10⟩) (by assumption) ?resta15_10
        case hya15_10 => (intro w hSw; (try dsimp only at hSw); go_simp; try with_reducible rfl)
        try simp only [Act.put, List.getElem_toArray, List.getElem_cons_succ, List.getElem_cons_zero, List.setIfInBounds_toArray, List.set_cons_zero, List.set_cons_succ]
        refine wpAnyH_done (by kernel_rfl) ?_ _
        clear hcell
        go_wp2
        go_roundw
        case rel => exact ⟨k + 1, _, rfl, by go_num, by omega, hgx, by rw [HR.out.1]; exact hO5⟩
        case measure => simp [intOf]; omega
      · have hke : k = n := by omega
        subst hke
        have hH3 : Rows3 Any wr vh (hsTo P k) := Rows3.sub (Rows3D.rows (hH.toD (by omega))) (fun _ _ _ => trivial)
        obtain ⟨ha, hcp, hvh, _, _⟩ := Sl.shape hH3
        rw [hhl] at hvh
        subst hvh
        have hgr := grown_trans hg02 hg
        obtain ⟨wm, rfl⟩ : ∃ wm : World, wm = wr := ⟨_, rfl⟩
        obtain ⟨n, rfl⟩ : ∃ n, n = k := ⟨_, rfl⟩
        have HHL := Lib.hid hhl; clear hhl hH hlt
        go_wp2
        go_loopw [9, 46] (fun ov iv wr => ∃ (i : Nat) (vo : Value), vo = ov ∧ iv = .int .i64 (i : Int) ∧ i ≤ n ∧ Ext wm wr ∧ SlO (fun F w u (x : List (List Int)) => RowsD F w u x) 23 wm.heap.size wr vo (syTo P i)) (fun _ iv _ => n - (intOf iv).toNat)
        case atStart => exact ⟨0, _, rfl, by go_num, Nat.zero_le _, Ext.refl _, SlO.nil _ _ _ _⟩
        case round =>
          obtain ⟨i, vo, rfl, rfl, hi, hgm, hO⟩ := hrel
          have hsl := syTo_len P i
          by_cases hlt : i < n
          · have hlt' : (i : Int) < (n : Int) := by omega
            obtain ⟨wo, rfl⟩ : ∃ wo : World, wo = wr := ⟨_, rfl⟩
            have hgo := grown_trans hgr hgm
            have hwh := whole_ok P G wo _ Any (hp0.ext hgo)
            have hall0 := G.cseq_len (HV.out.2.1 i 0)
            rw [show Vec P.orders = syT P i 0 from rfl] at hwh
            go_wp2_with fail
            refine Calls.mono hwh ?_
            rintro e5 w5 ⟨v5, rfl, hg5, hU⟩
            clear hwh
            obtain ⟨ua, uc, hvu, _, _⟩ := SlD.shape (hU.toD (by have := G.v.n6; omega))
            subst hvu
            go_wp2
            go_loopw [11, 52] (fun uv jv wr => ∃ (j : Nat) (vu : Value), vu = uv ∧ jv = .int .i64 (j : Int) ∧ j ≤ n ∧ Ext wo wr ∧ RowsO wo.heap.size wr vu (cseq P (syT P i j))) (fun _ jv _ => n - (intOf jv).toNat)
            case atStart => exact ⟨0, _, rfl, by go_num, Nat.zero_le _, hg5, hU⟩
            case round =>
              clear hU
              obtain ⟨j, vu, rfl, rfl, hj, hgj, hU⟩ := hrel
              have hlu := G.cseq_len (HV.out.2.1 i j)
              have hn6 := G.v.n6
              have hUD := hU.toD (by omega)
              obtain ⟨ua2, uc2, hvu, _, _⟩ := SlD.shape hUD
              by_cases hltj : j < n
              · have hltj' : (j : Int) < (n : Int) := by omega
                obtain ⟨bl, ol, a2, cap2, hal, _, hbl, hcl, hru⟩ := Rows3.at hH3 j (by rw [HHL.out]; exact hltj)
                cases hal
                have hgmj := grown_trans hgm hgj
                have hcr := hgmj.cell hcl (by simp)
                have hru2 := Rows2.ext hru hgmj
                have hgt := hsTo_gt P hltj
                by_cases hji : j = i
                · have hst : syT P i (j + 1) = syT P i j := by show (if j = i then syT P i j else _) = _; rw [if_pos hji]
                  have HS := Lib.hid hst; clear hst hcl hru hru2
                  have hne : ((j : Int) != (i : Int)) = false := by rw [hji]; simp
                  obtain ⟨hl2, hhl2⟩ : ∃ hl2, hl2 = (gt (hsTo P n) j).length := ⟨_, rfl⟩
                  rw [← hhl2] at hcr
                  clear hhl2 hgt hUD
                  subst hvu
                  have HJ := Lib.hid hji; clear hji
                  go_wp2
                  go_roundw
                  case rel => exact ⟨j + 1, _, rfl, by go_num, by omega, hgj, by rw [HS.out]; exact hU⟩
                  case measure => simp [intOf]; omega
                · have hst : syT P i (j + 1) = fun x => syT P i j x ∧ gP P (hfL P (oth P j)) x := by show (if j = i then syT P i j else _) = _; rw [if_neg hji]
                  have hb := hf_sub (HV.out.2.2 j)
                  rw [← hgt] at hb hst
                  have eb : cseq P (gP P (gt (hsTo P n) j)) = gt (hsTo P n) j := hb.2.symm
                  rw [← eb] at hru2
                  subst hvu
                  have hmt := meet_ok P G wr _ _ _ (syT P i j) (gP P (gt (hsTo P n) j)) Any Any Any (HV.out.2.1 i j) (G.subB hb) ((hp0.ext hgo).ext hgj) (Rows2.sub (RowsD.rows hUD) (fun _ _ _ => trivial)) (Rows2.sub hru2 (fun _ _ _ => trivial))
                  rw [← hst] at hmt
                  rw [eb] at hmt
                  obtain ⟨hl2, hhl2⟩ : ∃ hl2, hl2 = (gt (hsTo P n) j).length := ⟨_, rfl⟩
                  rw [← hhl2] at hcr hmt
                  have hne : ((j : Int) != (i : Int)) = true := by simp; omega
                  clear hhl2 hgt hUD hst hb eb hru2 hcl hru
                  go_wp2_with fail
                  clear hcr
                  refine Calls.mono hmt ?_
                  rintro e6 w6 ⟨v6, rfl, hg6, hO6⟩
                  clear hmt
                  have hgj6 := grown_trans hgj hg6
                  go_wp2
                  go_roundw
                  case rel => exact ⟨j + 1, _, rfl, by go_num, by omega, hgj6, hO6.weak hgj.size⟩
                  case measure => simp [intOf]; omega
              · have hje : j = n := by omega
                subst hje
                have hst : syTo P (i + 1) = syTo P i ++ [cseq P (syT P i j)] := by rw [syTo_succ, ← HN.out]
                have hDD : RowsD (From wo.heap.size) wr vu (cseq P (syT P i j)) := rdRows.mono hUD (fun q hq hlt => ⟨hq, hlt, rfl⟩)
                obtain ⟨X, hX⟩ : ∃ X, X = cseq P (syT P i j) := ⟨_, rfl⟩
                rw [← hX] at hst hDD hvu hlu
                have HR := Lib.hid (And.intro hst hDD); clear hst hDD hUD hU hX
                have hHlt : ∀ q, vo.ownBlock = some q → wm.heap.size ≤ q := fun q hq => by
                  obtain ⟨vs, _, _, h2, _⟩ := hO
                  exact (h2.lt q hq).1
                obtain ⟨xl, hxl⟩ : ∃ xl, xl = X.length := ⟨_, rfl⟩
                rw [← hxl] at hvu
                clear hxl
                subst hvu
                go_wp2_with (first | (at_builtin; refine wp_app_one rdRows 24 23 (.slice none 0 0) 24 und_r3 Tryz.infoR3 rfl (by decide) rfl _ _ rfl wm.heap.size wo wr _ _ (syTo P i) X rfl hO hgj HR.out.2 rfl rfl (by omega) hgm.size ?_; intro v7 w7 hO7 hg7 hg8))
                have hgx : Ext wm w7 := grown_own hgm hg7 (fun q hq hql => by have := hHlt q hq; omega)
                go_roundw
                case rel => exact ⟨i + 1, _, rfl, by go_num, by omega, hgx, by rw [HR.out.1]; exact hO7⟩
                case measure => simp [intOf]; omega
          · have hie : i = n := by omega
            subst hie
            have hfin : sysL P = syTo P i := by rw [HV.out.1, ← HN.out]
            obtain ⟨ra, rc, hrv, _, _⟩ := SlD.shape (hO.toD (by omega))
            rw [hsl] at hrv
            subst hrv
            have HF := Lib.hid (And.intro hfin hO); clear hfin hO hsl
            go_wp2
            go_ret2
            exact ⟨_, rfl, grown_trans hg0 (grown_trans hgr hgm), _, _, _, by rw [show sysC P = 0 from HC.out.1.symm]; rfl, by rw [HF.out.1]; exact HF.out.2.weak (Nat.le_trans hg0.size hgr.size)⟩
  · have hne : (c != 0) = true := by simpa using hz
    have HC := Lib.hid hc; clear hc
    go_wp2
    go_ret2
    exact ⟨_, rfl, hgw1, none, 0, 0, by rw [show sysC P = c from HC.out.symm]; rfl, by rw [sys_no (by rw [← HC.out]; exact hz)]; exact SlO.nil _ _ _ _⟩

end Go.Proofs.YtdklekdpdbjfiaaGreat
