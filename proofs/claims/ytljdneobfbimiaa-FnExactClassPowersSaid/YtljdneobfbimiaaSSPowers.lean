/-
  The reference's class powers: spec.ClassPowers.
-/
import Derived.Test.YtljdneobfbimiaaSSFirsts
import Derived.Test.YtljdneobfbimiaaSStepInts
import Derived.Test.YtljdneobfbimiaaSSPow
import Derived.Test.YtljdneobfbimiaaSPowEq
namespace Go.Proofs.Ytljdneobfbimiaa
open Go.RowKit

open Classical in
/-- the code of ClassPowers: 1 no group, 2 exponent out of range, 3 too large, 0 -/
noncomputable def powCode (P : Pr) (k : Int) (ok : Bool) : Int := if ok then (if inB k (-1000000) 1000000 then (if ordP P > 128 then 3 else 0) else 2) else 1

theorem powCode_zero {P : Pr} {k : Int} {ok : Bool} (h : powCode P k ok = 0) : ok = true ∧ inB k (-1000000) 1000000 = true ∧ ordP P ≤ 128 := by
  unfold powCode at h
  cases ok with
  | false => simp at h
  | true =>
    simp only [if_true] at h
    cases hi : inB k (-1000000) 1000000 with
    | false => rw [hi] at h; simp at h
    | true =>
      rw [hi] at h
      simp only [if_true] at h
      refine ⟨rfl, rfl, ?_⟩
      split at h <;> omega

open Classical in
set_option maxRecDepth 100000 in
set_option maxHeartbeats 8000000 in
theorem sClassPowers_ok (P : Pr) (K : Int) (w : World) (pv : Value) (Sp : Nat → Prop) (hpv : PresV Sp w pv P) :
    Calls Try.prog 20 #[pv, .int .i64 K] w (Ret w fun w' v => ∃ r, v = .tuple #[r, .int .i64 (powCode P K (rconsB P))] ∧ ((powCode P K (rconsB P) ≠ 0 ∧ r = .slice none 0 0) ∨ (powCode P K (rconsB P) = 0 ∧ Own w.heap.size w' r (powsOf P K)))) := by
  obtain ⟨vo, vp, vc, rfl, h3⟩ := hpv
  have hp0 := PresP.box h3 30
  have hg0 : Ext w (w.alloc (.cells #[vo, vp, vc] 30)) := World.grownBy_alloc _ _ _
  go_enter Try.func20, Try.ntmps20
  go_wp2_with fail
  refine Calls.mono (l08Group_ok P _ _ _ ⟨_, _, _, rfl, Pres3.ext h3 (World.grownBy_alloc _ _ _)⟩) ?_
  rintro eA wA ⟨vA, rfl, hgA, rfl⟩
  have hgw : Ext w wA := grown_trans hg0 hgA
  have hpA := hp0.ext hgA
  cases hr : rconsB P with
  | false =>
    have hz : powCode P K (rconsB P) = 1 := by rw [hr]; simp [powCode]
    have HZ := Lib.hid hz; clear hz
    go_wp2
    exact bodyPost_ret (v := .tuple #[.slice none 0 0, .int .i64 1]) (by simp [results, Try.results20, go_sem]) rfl ⟨_, rfl, hgw, _, by rw [HZ.out], .inl ⟨by rw [HZ.out]; decide, rfl⟩⟩
  | true =>
    have G := grp_of_r hr
    have hP := G.v
    have HR := Lib.hid hr; clear hr
    go_wp2_with fail
    refine Calls.mono (l01In_ok K (-1000000) 1000000 wA) ?_
    rintro eI wI ⟨rfl, rfl⟩
    cases hi : inB K (-1000000) 1000000 with
    | false =>
      have hz : powCode P K (rconsB P) = 2 := by rw [HR.out]; simp [powCode, hi]
      have HZ := Lib.hid hz; clear hz
      go_wp2
      exact bodyPost_ret (v := .tuple #[.slice none 0 0, .int .i64 2]) (by simp [results, Try.results20, go_sem]) rfl ⟨_, rfl, hgw, _, by rw [HZ.out], .inl ⟨by rw [HZ.out]; decide, rfl⟩⟩
    | true =>
      have hK : -1000000 ≤ K ∧ K ≤ 1000000 := by simpa [inB] using hi
      obtain ⟨vo5, vp5, vc5, _, _, hb1, hb2, hb3, h3r⟩ := hpA.at
      simp at hb2 hb3
      go_wp2_with fail
      refine Calls.mono (l10Order_ok _ _ P _ hP ⟨_, _, _, rfl, h3r⟩) ?_
      rintro eB wB ⟨vB, rfl, hgB, rfl⟩
      have hgwB := grown_trans hgw hgB
      have hpB := hpA.ext hgB
      clear hb1 hb2 hb3 h3r
      by_cases hb : ordP P > 128
      · have hb' : 128 < ordP P := hb
        have hz : powCode P K (rconsB P) = 3 := by rw [HR.out]; simp [powCode, hi, hb']
        have HZ := Lib.hid hz; clear hz
        go_wp2
        exact bodyPost_ret (v := .tuple #[.slice none 0 0, .int .i64 3]) (by simp [results, Try.results20, go_sem]) rfl ⟨_, rfl, hgwB, _, by rw [HZ.out], .inl ⟨by rw [HZ.out]; decide, rfl⟩⟩
      · have hb' : ordP P ≤ 128 := by omega
        have hz : powCode P K (rconsB P) = 0 := by rw [HR.out]; simp [powCode, hi]; omega
        have HZ := Lib.hid hz; clear hz hb hi
        obtain ⟨vo5, vp5, vc5, _, _, hb1, hb2, hb3, h3r⟩ := hpB.at
        simp at hb2 hb3
        go_wp2_with fail
        refine Calls.mono (l18Classes_ok P hP wB _ _ ⟨_, _, _, rfl, h3r⟩) ?_
        rintro eC wC ⟨vC, rfl, hgC, rc, rfl, hOC⟩
        have hgwC := grown_trans hgwB hgC
        have hpC := hpB.ext hgC
        have hlr : (rCls P).1.length = (ordP P).toNat := clsTo_len P _
        have hCi := hOC.ints (by rw [hlr]; omega)
        obtain ⟨aC, capC, rfl, _, _⟩ := hCi.shape
        clear hb1 hb2 hb3 h3r hOC
        have HLR := Lib.hid hlr
        rw [hlr] at hCi
        simp only [hlr]
        clear hlr
        obtain ⟨vo5, vp5, vc5, _, _, hb1, hb2, hb3, h3r⟩ := hpC.at
        simp at hb2 hb3
        go_wp2_with fail
        refine Calls.mono (l18Firsts_ok P hP wC _ _ ⟨_, _, _, rfl, h3r⟩) ?_
        rintro eD wD ⟨vD, rfl, hgD, hF⟩
        have hgwD := grown_trans hgwC hgD
        have hpD := hpC.ext hgD
        have hCD := hCi.ext hgD
        have hfl : (rFirsts P).length ≤ (ordP P).toNat := firstsTo_len _ _ _
        have hfb : ∀ k, k < (rFirsts P).length → 0 ≤ gt (rFirsts P) k ∧ gt (rFirsts P) k ≤ 1000000000 := fun k hk => by
          have := firstsTo_bd (rCls P).1 (rCls P).2 (ordP P).toNat (gt (rFirsts P) k) (gt_mem hk)
          have h2 : ((ordP P).toNat : Int) ≤ 128 := by omega
          exact ⟨this.1, by have := this.2; omega⟩
        have HFB := Lib.hid hfb; clear hfb
        have hFi := hF.ints (by omega)
        obtain ⟨aF, capF, rfl, _, _⟩ := hFi.shape
        clear hF hb1 hb2 hb3 h3r hCi
        have hpw : powsOf P K = (rFirsts P).map (fun t => gt (rCls P).1 (num P (pwZ P (elAt P t) K)).toNat) := by
          unfold powsOf; rw [G.reps_eq, List.map_map]; rfl
        have HPW := Lib.hid hpw; clear hpw
        have hl0 : Own wD.heap.size (wD.alloc (.cells #[] 2)) (.slice (some ⟨wD.heap.size, 0, none⟩) 0 0) ([] : List Int) := World.ownsRow_lit wD #[] 0 (Nat.le_refl _) (by decide) rfl
        have HL0 := Lib.hid hl0; clear hl0
        go_wp2
        go_loopw [9, 10] (fun ov kv wr => ∃ k : Nat, kv = .int .i64 k ∧ k ≤ (rFirsts P).length ∧ Ext wD wr ∧ Own wD.heap.size wr ov (((rFirsts P).map (fun t => gt (rCls P).1 (num P (pwZ P (elAt P t) K)).toNat)).take k)) (fun _ kv _ => (rFirsts P).length - (intOf kv).toNat)
        case atStart => exact ⟨0, rfl, by omega, World.grownBy_alloc _ _ _, by simpa using HL0.out⟩
        case round =>
          obtain ⟨k, rfl, hk, hg, hO⟩ := hrel
          by_cases hlt : k < (rFirsts P).length
          · have hlt' : (k : Int) < (rFirsts P).length := by omega
            obtain ⟨bF, oF, hab, _, _, hcF⟩ := Ints.at hFi k hlt
            cases hab
            obtain ⟨vo6, vp6, vc6, _, _, hb1, hb2, hb3, h3D⟩ := hpD.at
            have hv := elAt_vec hP (gt (rFirsts P) k) (HFB.out k hlt).1
            have hvl : (elAt P (gt (rFirsts P) k)).length ≤ 6 := by rw [hv.1]; exact hP.n6
            have hpv := G.pwZ_vec hv K
            have hpvl : (pwZ P (elAt P (gt (rFirsts P) k)) K).length ≤ 6 := by rw [hpv.1]; exact hP.n6
            have hnb := num_bd hP hpv
            have hnt : ((num P (pwZ P (elAt P (gt (rFirsts P) k)) K)).toNat : Int) = num P (pwZ P (elAt P (gt (rFirsts P) k)) K) := by omega
            obtain ⟨bC, oC, hab, _, _, hcC⟩ := Ints.at hCD (num P (pwZ P (elAt P (gt (rFirsts P) k)) K)).toNat (by rw [HLR.out]; omega)
            cases hab
            have hn0 : 0 ≤ num P (pwZ P (elAt P (gt (rFirsts P) k)) K) := hnb.1
            have hn1 : num P (pwZ P (elAt P (gt (rFirsts P) k)) K) < max (ordP P) 0 := by omega
            have hn2 : num P (pwZ P (elAt P (gt (rFirsts P) k)) K) < ((ordP P).toNat : Int) := by omega
            have hn3 : (num P (pwZ P (elAt P (gt (rFirsts P) k)) K)).toNat < (ordP P).toNat := by omega
            have e0 : ∀ w', Ext wD w' → w'.cell? ⟨w.heap.size, 0, none⟩ = some vo6 := fun w' h => h.cell hb1 (by simp)
            have e1 : ∀ w', Ext wD w' → w'.cell? ⟨w.heap.size, 1, none⟩ = some vp6 := fun w' h => h.cell (by simpa using hb2) (by simp)
            have e2 : ∀ w', Ext wD w' → w'.cell? ⟨w.heap.size, 2, none⟩ = some vc6 := fun w' h => h.cell (by simpa using hb3) (by simp)
            have e3 : ∀ w', Ext wD w' → w'.cell? ⟨bF, oF + k, none⟩ = some (.int .i64 (gt (rFirsts P) k)) := fun w' h => h.cell hcF (by simp)
            have e4 : ∀ w', Ext wD w' → w'.cell? ⟨bC, oC + (num P (pwZ P (elAt P (gt (rFirsts P) k)) K)).toNat, none⟩ = some (.int .i64 (gt (rCls P).1 (num P (pwZ P (elAt P (gt (rFirsts P) k)) K)).toNat)) := fun w' h => h.cell hcC (by simp)
            have hstep : ((rFirsts P).map (fun t => gt (rCls P).1 (num P (pwZ P (elAt P t) K)).toNat)).take (k + 1) = ((rFirsts P).map (fun t => gt (rCls P).1 (num P (pwZ P (elAt P t) K)).toNat)).take k ++ [gt (rCls P).1 (num P (pwZ P (elAt P (gt (rFirsts P) k)) K)).toNat] := by
              rw [take_succ_gt _ k (by rw [List.length_map]; exact hlt), gt_map _ _ _ hlt]
            have HS := Lib.hid (And.intro hstep (And.intro hv hpv)); clear hstep hv hpv hb1 hb2 hb3 hcF hcC hnb hnt
            have h3k := h3D.ext hg
            go_wp2
            go_region_held3 (fun w' => Ext wD w') (first | exact grown_trans hg (grown_drew _ _) | assumption | exact grown_trans hgZD (World.grownBy_alloc _ _ _))
              (first
                | (go_at_call 34; refine Calls.mono (Calls.rel2 (w0 := wr) (grown_drew _ _) (l10At_ok P hP _ _ (gt (rFirsts P) k) Any ⟨_, _, _, rfl, Pres3.ext h3k (grown_drew _ _)⟩ (HFB.out k hlt).1 (HFB.out k hlt).2)) ?_; rintro eX wX ⟨vX, rfl, hgX, hgX2, hsX, hOX⟩; have hgXD := grown_trans hg hgX; have hXi := hOX.ints (by omega))
                | (go_at_call 39; refine Calls.mono (Calls.rel2 (w0 := wr) hgX (l10Pow_ok P G _ _ _ _ K Any Any ⟨_, _, _, rfl, Pres3.ext h3k hgX⟩ hXi HS.out.2.1 (by omega))) ?_; rintro eY wY ⟨vY, rfl, hgY, hgY2, hsY, hOY⟩; have hgYD := grown_trans hg hgY; have hYi := hOY.ints (by omega))
                | (go_at_call 38; refine Calls.mono (Calls.rel2 (w0 := wr) hgY (l10Number_ok P hP _ _ _ _ Any Any ⟨_, _, _, rfl, Pres3.ext h3k hgY⟩ hYi HS.out.2.2)) ?_; rintro eZ wZ ⟨vZ, rfl, hgZ, hgZ2, hsZ, rfl⟩; have hgZD := grown_trans hg hgZ)
                | (refine step_app_int rfl _ _ rfl wD.heap.size _ _ (gt (rCls P).1 (num P (pwZ P (elAt P (gt (rFirsts P) k)) K)).toNat) rfl wZ (hO.ext0 hgZ) rfl rfl (by rw [List.length_take, List.length_map]; omega) (by have := hg.size; have := hgZ.size; omega) ?_; intro v5 w5 hO5 hg5; have hgB5 := grown_own hgZD hg5 (fun j hj hlt => by have := (hO.lt j hj).1; omega)))
            clear e0 e1 e2 e3 e4
            rw [← HS.out.1] at hO5
            go_wp2
            go_roundw
            case rel => exact ⟨k + 1, by go_num, by omega, hgB5, hO5⟩
            case measure => simp [intOf]; omega
          · have hke : k = (rFirsts P).length := by omega
            subst hke
            have htk : ((rFirsts P).map (fun t => gt (rCls P).1 (num P (pwZ P (elAt P t) K)).toNat)).take (rFirsts P).length = powsOf P K := by rw [HPW.out]; exact List.take_of_length_le (by simp)
            rw [htk] at hO
            clear htk
            have hlm : (powsOf P K).length ≤ 128 := by rw [HPW.out, List.length_map]; omega
            obtain ⟨az, caps, hvz, _, _⟩ := (hO.ints (by omega)).shape
            subst hvz
            have hfin := hO.weak hgwD.size
            clear hO
            go_wp2
            exact bodyPost_ret (v := .tuple #[.slice az (powsOf P K).length caps, .int .i64 0]) (by simp [results, Try.results20, go_sem]) rfl ⟨_, rfl, grown_trans hgwD hg, _, by rw [HZ.out], .inr ⟨HZ.out, hfin⟩⟩

end Go.Proofs.Ytljdneobfbimiaa
