/-
  The reference's class sizes: spec.ClassSizes.
-/
import Derived.Test.YtljdneobfbimiaaK7
namespace Go.Proofs.Ytljdneobfbimiaa
open Go.Proofs Go.RowKit

open Classical in
set_option maxRecDepth 100000 in
set_option maxHeartbeats 8000000 in
theorem sClassSizes_ok (P : Pr) (hcls : rconsB P = true → ordP P ≤ 128 → ∀ k, k < (ordP P).toNat → 0 ≤ gt (rCls P).1 k ∧ gt (rCls P).1 k < (rCls P).2) (w : World) (pv : Value) (Sp : Nat → Prop) (hpv : PresV Sp w pv P) :
    Calls Try.prog 7 #[pv] w (Ret w fun w' v => ∃ r, v = .tuple #[r, .int .i64 (clsCode P (rconsB P))] ∧ ((clsCode P (rconsB P) ≠ 0 ∧ r = .slice none 0 0) ∨ (clsCode P (rconsB P) = 0 ∧ Own w.heap.size w' r (rSizes P)))) := by
  obtain ⟨vo, vp, vc, rfl, h3⟩ := hpv
  have hp0 := PresP.box h3 30
  have hg0 : Ext w (w.alloc (.cells #[vo, vp, vc] 30)) := World.grownBy_alloc _ _ _
  go_enter Try.func7, Try.ntmps7
  go_wp2_with fail
  refine Calls.mono (l18Code_ok P _ _ _ ⟨_, _, _, rfl, Pres3.ext h3 (World.grownBy_alloc _ _ _)⟩) ?_
  rintro eA wA ⟨vA, rfl, hgA, rfl⟩
  have hgw : Ext w wA := grown_trans hg0 hgA
  have hpA := hp0.ext hgA
  by_cases hz : clsCode P (rconsB P) = 0
  · have hrc : rconsB P = true := by
      cases h : rconsB P
      · rw [h] at hz; simp [clsCode] at hz
      · rfl
    have h128 : ordP P ≤ 128 := by
      rw [hrc] at hz
      simp only [clsCode, if_true] at hz
      split at hz <;> omega
    have hP : Valid P := by
      unfold rconsB at hrc
      exact (of_decide_eq_true hrc).1
    have hcl := hcls hrc h128
    have HCL := Lib.hid hcl; clear hcl hcls hrc
    have hpos := hP.ordP_pos
    have hcn : (rCls P).2 ≤ (ordP P).toNat := clsTo_num P _
    obtain ⟨vo5, vp5, vc5, _, _, hb1, hb2, hb3, h3r⟩ := hpA.at
    simp at hb2 hb3
    rw [hz]
    go_wp2_with fail
    refine Calls.mono (l18Classes_ok P hP wA _ _ ⟨_, _, _, rfl, h3r⟩) ?_
    rintro eB wB ⟨vB, rfl, hgB, r, rfl, hO⟩
    have hlr : (rCls P).1.length = (ordP P).toNat := clsTo_len P _
    clear hb1 hb2 hb3
    obtain ⟨gL, capL, rfl, hgL, hgL'⟩ := hO.form (by rw [hlr]; omega)
    rw [hlr] at hO
    simp only [hlr]
    have HLR := Lib.hid hlr; clear hlr
    go_wp2_with (at_make; refine wp_make_ints rfl _ _ rfl wB.heap.size (rCls P).2 wB.heap.size rfl ((rCls P).2 : Nat) rfl rfl rfl (by omega) (Nat.le_refl _) ?_; intro wM hoM hgM hltM)
    have hgwM := grown_trans hgw (grown_trans hgB hgM)
    have hOM := hO.ext0 hgM
    go_loopw [8] (fun kv wr => ∃ k : Nat, kv = .int .i64 k ∧ k ≤ (ordP P).toNat ∧ wB.grownBy wr none ∧ Own wB.heap.size wr (.slice (some ⟨wB.heap.size, 0, none⟩) (rCls P).2 (rCls P).2) (cntTo (rCls P).1 (rCls P).2 k)) (fun kv _ => (ordP P).toNat - (intOf kv).toNat)
    case atStart => exact ⟨0, rfl, by omega, hgM, hoM⟩
    case round =>
      clear hoM hOM hgM hgwM
      obtain ⟨k, rfl, hk, hgo, hO2⟩ := hrel
      by_cases hlt : k < (ordP P).toNat
      · have hlt' : (k : Int) < ordP P := by omega
        have hlt'' : (k : Int) < max (ordP P) 0 := by omega
        have hcL := (hO.ext0 hgo).cell k (by rw [HLR.out]; omega)
        have hb := HCL.out k hlt
        have hb0 := hb.1
        have hb1 := hb.2
        have hcC := hO2.cell (gt (rCls P).1 k).toNat (by rw [cntTo_len]; omega)
        have hfC := hO2.frozen (gt (rCls P).1 k).toNat
        have hbd := cntTo_bd (rCls P).1 (rCls P).2 k (gt (rCls P).1 k).toNat (by omega)
        obtain ⟨hO3, hgs⟩ := hO2.store (gt (rCls P).1 k).toNat (gt (cntTo (rCls P).1 (rCls P).2 k) (gt (rCls P).1 k).toNat + 1)
        have hgn : Ext wB (wr.setCell ⟨wB.heap.size, (gt (rCls P).1 k).toNat, none⟩ (.int .i64 (gt (cntTo (rCls P).1 (rCls P).2 k) (gt (rCls P).1 k).toNat + 1))) := grown_own hgo hgs (fun j hj hlt => by cases hj; omega)
        have hwr : IntKind.i64.wrap (gt (cntTo (rCls P).1 (rCls P).2 k) (gt (rCls P).1 k).toNat + 1) = gt (cntTo (rCls P).1 (rCls P).2 k) (gt (rCls P).1 k).toNat + 1 := IntWalk.i64_in _ (by have := hP.le729; have : ordP P ≤ 729 := hP.le729; omega)
        have e1 : ∀ w', Near wr wB.heap.size w' → w'.cell? ⟨gL, 0 + k, none⟩ = some (.int .i64 (gt (rCls P).1 k)) := fun w' h => h.cell (by simpa using hcL) (by simp; omega)
        have e2 : wr.drew.cell? ⟨wB.heap.size, (gt (rCls P).1 k).toNat, none⟩ = some (.int .i64 (gt (cntTo (rCls P).1 (rCls P).2 k) (gt (rCls P).1 k).toNat)) := hcC
        simp only [Nat.zero_add] at e1
        clear hgs hbd hb
        go_wp2
        go_still_tail 14, (by kernel_rfl)
        change wpList _ _ _ _ _ wr.drew
        have hgd := grown_trans hgn (grown_drew (wr.setCell ⟨wB.heap.size, (gt (rCls P).1 k).toNat, none⟩ (.int .i64 (gt (cntTo (rCls P).1 (rCls P).2 k) (gt (rCls P).1 k).toNat + 1))) none)
        have hOd := hO3.ext0 (grown_drew (wr.setCell ⟨wB.heap.size, (gt (rCls P).1 k).toNat, none⟩ (.int .i64 (gt (cntTo (rCls P).1 (rCls P).2 k) (gt (rCls P).1 k).toNat + 1))) none)
        have e3 := e1 wr.drew (Near.of (grown_drew _ _))
        have hfD : wr.drew.frozen? ⟨wB.heap.size, (gt (rCls P).1 k).toNat, none⟩ = false := hfC
        clear e1 hcL hcC hfC
        go_wp2
        go_roundw
        case rel => exact ⟨k + 1, by go_num, by omega, hgd, hOd⟩
        case measure => simp [intOf]; omega
      · have hke : k = (ordP P).toNat := by omega
        subst hke
        go_wp2
        exact bodyPost_ret (v := .tuple #[.slice (some ⟨wB.heap.size, 0, none⟩) (rCls P).2 (rCls P).2, .int .i64 0]) (by simp [results, Try.results7, go_sem]) rfl ⟨_, rfl, grown_trans hgw (grown_trans hgB hgo), _, by rw [hz], .inr ⟨hz, hO2.weak (grown_trans hgw hgB).size⟩⟩
  · have hz' : (clsCode P (rconsB P) != 0) = true := by simpa using hz
    go_wp2
    exact bodyPost_ret (v := .tuple #[.slice none 0 0, .int .i64 (clsCode P (rconsB P))]) (by simp [results, Try.results7, go_sem]) rfl ⟨_, rfl, hgw, _, rfl, .inl ⟨hz, rfl⟩⟩

end Go.Proofs.Ytljdneobfbimiaa
