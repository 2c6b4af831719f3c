/-
  The reference's representatives: spec.ClassRepresentatives.
-/
import Derived.Test.YtljdneobfbimiaaSSFirsts
import Derived.Test.YtljdneobfbimiaaSStepApp
namespace Go.Proofs.Ytljdneobfbimiaa
open Go.RowKit

open Classical in
set_option maxRecDepth 100000 in
set_option maxHeartbeats 8000000 in
theorem sClassReps_ok (P : Pr) (w : World) (pv : Value) (Sp : Nat → Prop) (hpv : PresV Sp w pv P) :
    Calls Try.prog 15 #[pv] w (Ret w fun w' v => ∃ r, v = .tuple #[r, .int .i64 (clsCode P (rconsB P))] ∧ ((clsCode P (rconsB P) ≠ 0 ∧ r = .slice none 0 0) ∨ (clsCode P (rconsB P) = 0 ∧ RowsO w.heap.size w' r ((rFirsts P).map (elAt P))))) := by
  obtain ⟨vo, vp, vc, rfl, h3⟩ := hpv
  have hp0 := PresP.box h3 30
  have hg0 : Ext w (w.alloc (.cells #[vo, vp, vc] 30)) := World.grownBy_alloc _ _ _
  go_enter Try.func15, Try.ntmps15
  go_wp2_with fail
  refine Calls.mono (l18Code_ok P _ _ _ ⟨_, _, _, rfl, Pres3.ext h3 (World.grownBy_alloc _ _ _)⟩) ?_
  rintro eA wA ⟨vA, rfl, hgA, rfl⟩
  have hgw : Ext w wA := grown_trans hg0 hgA
  have hpA := hp0.ext hgA
  by_cases hz : clsCode P (rconsB P) = 0
  · have hrc : rconsB P = true := by
      cases h : rconsB P
      · rw [h] at hz; simp [clsCode] at hz
      · rfl
    have h128 : ordP P ≤ 128 := by
      rw [hrc] at hz
      simp only [clsCode, if_true] at hz
      split at hz <;> omega
    have hP : Valid P := (grp_of_r hrc).v
    clear hrc
    obtain ⟨vo5, vp5, vc5, _, _, hb1, hb2, hb3, h3r⟩ := hpA.at
    simp at hb2 hb3
    have HZ := Lib.hid hz
    rw [hz]
    clear hz
    go_wp2_with fail
    refine Calls.mono (l18Firsts_ok P hP wA _ _ ⟨_, _, _, rfl, h3r⟩) ?_
    rintro eB wB ⟨vB, rfl, hgB, hF⟩
    clear hb1 hb2 hb3
    have hgwB := grown_trans hgw hgB
    have hpB := hpA.ext hgB
    have hfl : (rFirsts P).length ≤ (ordP P).toNat := firstsTo_len _ _ _
    have hfb : ∀ k, k < (rFirsts P).length → 0 ≤ gt (rFirsts P) k ∧ gt (rFirsts P) k ≤ 1000000000 := fun k hk => by
      have := firstsTo_bd (rCls P).1 (rCls P).2 (ordP P).toNat (gt (rFirsts P) k) (gt_mem hk)
      have h2 : ((ordP P).toNat : Int) ≤ 128 := by omega
      exact ⟨this.1, by have := this.2; omega⟩
    have HFB := Lib.hid hfb; clear hfb
    have hFi := hF.ints (by omega)
    obtain ⟨aF, capF, rfl, _, _⟩ := hFi.shape
    clear hF
    have hl0 : OwnV wB.heap.size 22 (wB.alloc (.cells #[] 22)) (.slice (some ⟨wB.heap.size, 0, none⟩) 0 0) [] := World.ownsRow_lit wB #[] 0 (Nat.le_refl _) (by decide) rfl
    have hO0 : RowsO wB.heap.size (wB.alloc (.cells #[] 22)) (.slice (some ⟨wB.heap.size, 0, none⟩) 0 0) ([] : List (List Int)) := ⟨[], fun _ _ => False, rfl, hl0, by simp, by simp, by simp⟩
    have HO0 := Lib.hid hO0; clear hO0 hl0
    go_wp2
    go_loopw [6, 7] (fun ov kv wr => ∃ k : Nat, kv = .int .i64 k ∧ k ≤ (rFirsts P).length ∧ Ext wB wr ∧ RowsO wB.heap.size wr ov ((rFirsts P).map (elAt P) |>.take k)) (fun _ kv _ => (rFirsts P).length - (intOf kv).toNat)
    case atStart => exact ⟨0, rfl, by omega, World.grownBy_alloc _ _ _, by simpa using HO0.out⟩
    case round =>
      obtain ⟨k, rfl, hk, hg, hO⟩ := hrel
      by_cases hlt : k < (rFirsts P).length
      · have hlt' : (k : Int) < (rFirsts P).length := by omega
        obtain ⟨b, off, hab, _, _, hc⟩ := Ints.at (hFi.ext hg) k hlt
        cases hab
        obtain ⟨vo6, vp6, vc6, _, _, hb1, hb2, hb3, h3B⟩ := hpB.at
        have h3k := h3B.ext hg
        obtain ⟨b', off', hab', _, _, hcB⟩ := Ints.at hFi k hlt
        cases hab'
        have e0 : ∀ w', Ext wB w' → w'.cell? ⟨w.heap.size, 0, none⟩ = some vo6 := fun w' h => h.cell hb1 (by simp)
        have e1 : ∀ w', Ext wB w' → w'.cell? ⟨w.heap.size, 1, none⟩ = some vp6 := fun w' h => h.cell (by simpa using hb2) (by simp)
        have e2 : ∀ w', Ext wB w' → w'.cell? ⟨w.heap.size, 2, none⟩ = some vc6 := fun w' h => h.cell (by simpa using hb3) (by simp)
        have e3 : ∀ w', Ext wB w' → w'.cell? ⟨b, off + k, none⟩ = some (.int .i64 (gt (rFirsts P) k)) := fun w' h => h.cell hcB (by simp)
        have hv := elAt_vec hP (gt (rFirsts P) k) (HFB.out k hlt).1
        have hvl : (elAt P (gt (rFirsts P) k)).length ≤ 6 := by rw [hv.1]; exact hP.n6
        have hsize := hg.size
        have hstep : ((rFirsts P).map (elAt P)).take (k + 1) = ((rFirsts P).map (elAt P)).take k ++ [elAt P (gt (rFirsts P) k)] := by
          rw [take_succ_gt _ k (by rw [List.length_map]; exact hlt), gt_map _ _ _ hlt]
        have HS := Lib.hid (And.intro hstep hv); clear hstep hv hb1 hb2 hb3 hc hcB
        go_wp2
        go_region_held3 (fun w' => Ext wB w') (first | exact grown_trans hg (grown_drew _ _) | assumption | exact grown_trans hgCB (World.grownBy_alloc _ _ _))
          (first
            | (go_at_call 34; refine Calls.mono (Calls.rel2 (w0 := wr) (grown_drew _ _) (l10At_ok P hP _ _ (gt (rFirsts P) k) Any ⟨_, _, _, rfl, Pres3.ext h3k (grown_drew _ _)⟩ (HFB.out k hlt).1 (HFB.out k hlt).2)) ?_; rintro eC wC ⟨vC, rfl, hgC, hgC2, hsC, hOC⟩; have hgCB := grown_trans hg hgC; obtain ⟨aC, capC, hvC, _, _⟩ := (hOC.ints (by omega)).shape; subst hvC)
            | (refine step_app_row rfl _ _ rfl wB.heap.size wr wC _ _ _ (elAt P (gt (rFirsts P) k)) rfl hO hgC (OwnIn.of hOC (by omega) (fun j h1 _ => Nat.le_trans hsC h1)) rfl rfl (by rw [List.length_take, List.length_map]; omega) hg.size ?_; intro v5 w5 hO5 hg5 hg6; have hgB5 := hO.extw hg (Nat.le_refl _) hg5))
        clear e0 e1 e2 e3
        rw [← HS.out.1] at hO5
        go_wp2
        go_roundw
        case rel => exact ⟨k + 1, by go_num, by omega, hgB5, hO5⟩
        case measure => simp [intOf]; omega
      · have hke : k = (rFirsts P).length := by omega
        subst hke
        have htk : ((rFirsts P).map (elAt P)).take (rFirsts P).length = (rFirsts P).map (elAt P) := List.take_of_length_le (by simp)
        rw [htk] at hO
        clear htk
        have hlm : ((rFirsts P).map (elAt P)).length ≤ 128 := by rw [List.length_map]; omega
        obtain ⟨az, caps, hvz, _, _⟩ := SlD.shape (hO.toD (by omega))
        subst hvz
        have hfin := hO.weak hgwB.size
        clear hO
        go_wp2
        exact bodyPost_ret (v := .tuple #[.slice az ((rFirsts P).map (elAt P)).length caps, .int .i64 0]) (by simp [results, Try.results15, go_sem]) rfl ⟨_, rfl, grown_trans hgwB hg, _, by rw [HZ.out], .inr ⟨HZ.out, hfin⟩⟩
  · have hz' : (clsCode P (rconsB P) != 0) = true := by simpa using hz
    go_wp2
    exact bodyPost_ret (v := .tuple #[.slice none 0 0, .int .i64 (clsCode P (rconsB P))]) (by simp [results, Try.results15, go_sem]) rfl ⟨_, rfl, hgw, _, rfl, .inl ⟨hz, rfl⟩⟩

end Go.Proofs.Ytljdneobfbimiaa
