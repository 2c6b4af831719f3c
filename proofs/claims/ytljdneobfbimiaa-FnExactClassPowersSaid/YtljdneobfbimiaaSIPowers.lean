/-
  impl.ClassPowers.
-/
import Derived.Test.YtljdneobfbimiaaSIReps
import Derived.Test.YtljdneobfbimiaaSOrdEl
import Derived.Test.YtljdneobfbimiaaSSPowers
namespace Go.Proofs.Ytljdneobfbimiaa
open Go.Proofs Go.RowKit

open Classical in
set_option maxRecDepth 100000 in
set_option maxHeartbeats 8000000 in
theorem iClassPowers_ok (P : Pr) (K : Int) (w : World) (pv : Value) (Sp : Nat → Prop) (hpv : PresV Sp w pv P) :
    Calls Try.prog 21 #[pv, .int .i64 K] w (Ret w fun w' v => ∃ r, v = .tuple #[r, .int .i64 (powCode P K (iconsB P))] ∧ ((powCode P K (iconsB P) ≠ 0 ∧ r = .slice none 0 0) ∨ (powCode P K (iconsB P) = 0 ∧ Own w.heap.size w' r (powsOf P K)))) := by
  obtain ⟨vo, vp, vc, rfl, h3⟩ := hpv
  have hp0 := PresP.box h3 30
  have hg0 : Ext w (w.alloc (.cells #[vo, vp, vc] 30)) := World.grownBy_alloc _ _ _
  go_enter Try.func21, Try.ntmps21
  go_wp2_with fail
  refine Calls.mono (isConsistent_ok P _ _ _ ⟨_, _, _, rfl, Pres3.ext h3 (World.grownBy_alloc _ _ _)⟩) ?_
  rintro eA wA ⟨vA, rfl, hgA, rfl⟩
  have hgw : Ext w wA := grown_trans hg0 hgA
  have hpA := hp0.ext hgA
  cases hr : iconsB P with
  | false =>
    have hz : powCode P K (iconsB P) = 1 := by rw [hr]; simp [powCode]
    have HZ := Lib.hid hz; clear hz
    go_wp2
    exact bodyPost_ret (v := .tuple #[.slice none 0 0, .int .i64 1]) (by simp [results, Try.results21, go_sem]) rfl ⟨_, rfl, hgw, _, by rw [HZ.out], .inl ⟨by rw [HZ.out]; decide, rfl⟩⟩
  | true =>
    have G : Grp P := grp_of_r (by rw [← icons_eq P]; exact hr)
    have hP := G.v
    have HR := Lib.hid hr; clear hr
    go_wp2_with fail
    refine Calls.mono (inside_ok K (-1000000) 1000000 wA) ?_
    rintro eI wI ⟨rfl, rfl⟩
    cases hi : inB K (-1000000) 1000000 with
    | false =>
      have hz : powCode P K (iconsB P) = 2 := by rw [HR.out]; simp [powCode, hi]
      have HZ := Lib.hid hz; clear hz
      go_wp2
      exact bodyPost_ret (v := .tuple #[.slice none 0 0, .int .i64 2]) (by simp [results, Try.results21, go_sem]) rfl ⟨_, rfl, hgw, _, by rw [HZ.out], .inl ⟨by rw [HZ.out]; decide, rfl⟩⟩
    | true =>
      have hK : -1000000 ≤ K ∧ K ≤ 1000000 := by simpa [inB] using hi
      go_wp2_with fail
      refine Calls.mono (classesOf_ok P _ _ _ hpA) ?_
      rintro eB wB ⟨vB, rfl, hgB, r, rfl, hrr⟩
      have hgwB := grown_trans hgw hgB
      have hpB := hpA.ext hgB
      rcases hrr with ⟨hz, rfl⟩ | ⟨hz, hC⟩
      · have hz' : (clsCode P (iconsB P) != 0) = true := by simpa using hz
        have hz2 : powCode P K (iconsB P) = clsCode P (iconsB P) := by
          rw [HR.out]; simp [powCode, clsCode, hi]
        have HZ := Lib.hid (And.intro hz2 hz); clear hz2 hz
        go_wp2
        exact bodyPost_ret (v := .tuple #[.slice none 0 0, .int .i64 (clsCode P (iconsB P))]) (by simp [results, Try.results21, go_sem]) rfl ⟨_, rfl, hgwB, _, by rw [HZ.out.1], .inl ⟨by rw [HZ.out.1]; exact HZ.out.2, rfl⟩⟩
      · have hlen : (iCls P).length ≤ (ordP P).toNat := iClsTo_len P _
        have h128 : ordP P ≤ 128 := by
          have h1 := hz
          rw [HR.out] at h1
          simp only [clsCode, if_true] at h1
          split at h1 <;> omega
        have hz2 : powCode P K (iconsB P) = 0 := by
          rw [HR.out]; simp [powCode, hi]; omega
        have hne := iCls_ne G
        have hrl : ∀ i, i < (iCls P).length → (gt (iCls P) i).length ≤ 1048576 := fun i hi => by have := iClsTo_rows hP _ _ (gt_mem (l := iCls P) hi); omega
        have hCd := Rows3D.rows (hC.toD (by omega))
        obtain ⟨ac, capc, rfl, _, _⟩ := Sl.shape hCd
        have HZ := Lib.hid (And.intro hz2 (And.intro hne hrl))
        rw [hz]
        clear hz hz2 hne hrl hC
        go_wp2
        go_loopw [8, 26] (fun v kv wr => ∃ k : Nat, kv = .int .i64 k ∧ k ≤ (iCls P).length ∧ Ext wB wr ∧ Own wB.heap.size wr v ((powsOf P K).take k)) (fun _ kv _ => (iCls P).length - (intOf kv).toNat)
        case atStart => exact ⟨0, rfl, by omega, Ext.refl _, World.ownsRow_nil _ _ _ _⟩
        case round =>
          obtain ⟨k, rfl, hk, hg, hO⟩ := hrel
          by_cases hlt : k < (iCls P).length
          · have hlt' : (k : Int) < (iCls P).length := by omega
            have hn0 := HZ.out.2.1 _ (gt_mem hlt)
            obtain ⟨b3, o3, a3, c3, hab, _, _, hc3, hi3⟩ := Rows3.at hCd k hlt
            cases hab
            obtain ⟨b2, o2, a2, c2, hab, _, _, hc2, hi2⟩ := Rows2.at hi3 0 hn0
            subst hab
            have hn0' : (0 : Int) < ((gt (iCls P) k).length : Int) := by omega
            have hc3w := hg.cell hc3 (by simp)
            have e1 : ∀ w', Ext wB w' → w'.cell? ⟨b2, o2, none⟩ = some (.slice a2 (gt (gt (iCls P) k) 0).length c2) := fun w' h => h.cell (by simpa using hc2) (by simp)
            have hxv : Vec P.orders (gt (gt (iCls P) k) 0) := ((G.cls_inv _ (Nat.le_refl _)).ok _ (gt_mem (l := iCls P) hlt)).vec _ (gt_mem hn0)
            have hpl : (powsOf P K).length = (iCls P).length := by unfold powsOf repsOf; rw [List.length_map, List.length_map]
            have hpk : gt (powsOf P K) k = gt (rCls P).1 (num P (pwZ P (gt (gt (iCls P) k) 0) K)).toNat := by
              have h1 : gt (repsOf P) k = gt (gt (iCls P) k) 0 := gt_map _ _ _ hlt
              unfold powsOf
              rw [gt_map _ _ _ (by unfold repsOf; rw [List.length_map]; exact hlt), h1]
            have hstep : (powsOf P K).take (k + 1) = (powsOf P K).take k ++ [gt (rCls P).1 (num P (pwZ P (gt (gt (iCls P) k) 0) K)).toNat] := by
              rw [take_succ_gt _ k (by omega), hpk]
            have hpv := G.pwZ_vec hxv K
            have hpvl : (pwZ P (gt (gt (iCls P) k) 0) K).length ≤ 6 := by rw [hpv.1]; exact hP.n6
            have HS := Lib.hid (And.intro hstep (And.intro hxv (And.intro hpv hpl))); clear hstep hxv hpv hpk hpl hc3 hc2
            have hpr := hpB.ext hg
            have hCr := Rows3.ext hCd hg
            have hxr := hi2.ext hg
            clear hi3
            go_wp2
            go_region_held3 (fun w' => Ext wB w') (first | exact grown_trans hg (grown_drew _ _) | assumption | exact grown_trans hgZB (World.grownBy_alloc _ _ _))
              (first
                | (go_at_call 45; refine Calls.mono (Calls.rel2 (w0 := wr) (grown_drew _ _) (orderOfElement_ok P G _ _ _ _ _ _ (hpr.ext (grown_drew _ _)) (hxr.ext (grown_drew _ _)) HS.out.2.1)) ?_; rintro eX wX ⟨vX, rfl, hgX, hgX2, hsX, m, rfl, hm1, hm2, hm3⟩; have hgXB := grown_trans hg hgX)
                | (go_at_call 44; refine Calls.mono (residue_ok K m _ (by omega)) ?_; rintro eR wR ⟨rfl, rfl⟩; have hres := G.pw_residue HS.out.2.1 K m (by omega) hm3; have hrb := Int.emod_lt_of_pos K (show 0 < m by omega); have HRS := Lib.hid hres; clear hres)
                | (go_at_call 43; refine Calls.mono (Calls.rel2 (w0 := wr) hgX (power_ok P hP _ _ _ _ (K % m) _ _ (hpr.ext hgX) (hxr.ext hgX) HS.out.2.1 (by omega))) ?_; rintro eY wY ⟨vY, rfl, hgY, hgY2, hsY, hOY⟩; have hgYB := grown_trans hg hgY; rw [G.iPow_eq HS.out.2.1] at hOY; have hOY2 := (show Own _ _ _ (pwZ P (gt (gt (iCls P) k) 0) K) by rw [← HRS.out]; exact hOY); have hYi := hOY2.ints (by omega))
                | (go_at_call 42; refine Calls.mono (Calls.rel2 (w0 := wr) hgY (classNumber_ok _ _ (iCls P) _ _ _ Any (Rows3.ext hCr hgY) hYi HZ.out.2.2)) ?_; rintro eZ wZ ⟨vZ, rfl, hgZ, hgZ2, hsZ, q, rfl, hq⟩; have hgZB := grown_trans hg hgZ; have hq2 := G.find_cls HS.out.2.2.1 hq; have HQ := Lib.hid hq2; clear hq2 hq)
                | (refine step_app_int rfl _ _ rfl wB.heap.size _ _ q rfl wZ (hO.ext0 hgZ) rfl rfl (by rw [List.length_take]; have := HS.out.2.2.2; omega) (by have := hg.size; have := hgZ.size; omega) ?_; intro v5 w5 hO5 hg5; have hgB5 := grown_own hgZB hg5 (fun j hj hlt => by have := (hO.lt j hj).1; omega)))
            clear e1
            rw [HQ.out, ← HS.out.1] at hO5
            go_wp2
            go_roundw
            case rel => exact ⟨k + 1, by go_num, by omega, hgB5, hO5⟩
            case measure => simp [intOf]; omega
          · have hke : k = (iCls P).length := by omega
            subst hke
            have hpl : (powsOf P K).length = (iCls P).length := by unfold powsOf repsOf; rw [List.length_map, List.length_map]
            have htk : (powsOf P K).take (iCls P).length = powsOf P K := List.take_of_length_le (by omega)
            rw [htk] at hO
            clear htk
            obtain ⟨az, caps, hvz, _, _⟩ := (hO.ints (by omega)).shape
            subst hvz
            have hfin := hO.weak hgwB.size
            clear hO hpl
            go_wp2
            exact bodyPost_ret (v := .tuple #[.slice az (powsOf P K).length caps, .int .i64 0]) (by simp [results, Try.results21, go_sem]) rfl ⟨_, rfl, grown_trans hgwB hg, _, by rw [HZ.out.1], .inr ⟨HZ.out.1, hfin⟩⟩

end Go.Proofs.Ytljdneobfbimiaa
