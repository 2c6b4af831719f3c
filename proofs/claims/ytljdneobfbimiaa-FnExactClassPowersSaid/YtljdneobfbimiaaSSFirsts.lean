/-
  The reference's representatives: spec.l18Firsts, spec.ClassRepresentatives.
-/
import Derived.Test.YtljdneobfbimiaaK7
import Derived.Test.YtljdneobfbimiaaSRepsEq
namespace Go.Proofs.Ytljdneobfbimiaa
open Go.RowKit

set_option maxRecDepth 100000 in
set_option maxHeartbeats 8000000 in
theorem l18Firsts_ok (P : Pr) (hP : Valid P) (w : World) (pv : Value) (Sp : Nat → Prop) (hpv : PresV Sp w pv P) :
    Calls Try.prog 33 #[pv] w (Ret w fun w' v => Own w.heap.size w' v (rFirsts P)) := by
  have h729 : ordP P ≤ 729 := hP.le729
  obtain ⟨vo, vp, vc, rfl, h3⟩ := hpv
  have hg0 : Ext w (w.alloc (.cells #[vo, vp, vc] 30)) := World.grownBy_alloc _ _ _
  go_enter Try.func33, Try.ntmps33
  go_wp2_with fail
  refine Calls.mono (l18Classes_ok P hP _ _ _ ⟨_, _, _, rfl, Pres3.ext h3 (World.grownBy_alloc _ _ _)⟩) ?_
  rintro eA wA ⟨vA, rfl, hgA, r, rfl, hO⟩
  have hgw := grown_trans hg0 hgA
  have hlr : (rCls P).1.length = (ordP P).toNat := clsTo_len P _
  have hcn : (rCls P).2 ≤ (ordP P).toNat := clsTo_num P _
  have hOi := hO.ints (by rw [hlr]; omega)
  obtain ⟨gL, capL, rfl, _, _⟩ := hOi.shape
  have HLR := Lib.hid hlr
  rw [hlr] at hOi
  simp only [hlr]
  clear hlr hO
  have hl0 : Own wA.heap.size (wA.alloc (.cells #[] 2)) (.slice (some ⟨wA.heap.size, 0, none⟩) 0 0) ([] : List Int) := World.ownsRow_lit wA #[] 0 (Nat.le_refl _) (by decide) rfl
  have HL0 := Lib.hid hl0; clear hl0
  go_wp2
  go_loopw [5, 6] (fun ov tv wr => ∃ t : Nat, tv = .int .i64 t ∧ t ≤ (ordP P).toNat ∧ Ext wA wr ∧ Own wA.heap.size wr ov (firstsTo (rCls P).1 (rCls P).2 t)) (fun _ tv _ => (ordP P).toNat - (intOf tv).toNat)
  case atStart => exact ⟨0, rfl, by omega, World.grownBy_alloc _ _ _, HL0.out⟩
  case round =>
    obtain ⟨t, rfl, ht, hg, hF⟩ := hrel
    have hfl := firstsTo_len (rCls P).1 (rCls P).2 t
    have hFi := hF.ints (by omega)
    obtain ⟨aF, capF, rfl, _, _⟩ := hFi.shape
    by_cases hlt : t < (ordP P).toNat
    · have hlt' : (t : Int) < ordP P := by omega
      have hlt'' : (t : Int) < max (ordP P) 0 := by omega
      by_cases hlc : (firstsTo (rCls P).1 (rCls P).2 t).length < (rCls P).2
      · obtain ⟨b, off, hab, _, _, hc⟩ := Ints.at (hOi.ext hg) t (by rw [HLR.out]; exact hlt)
        cases hab
        have hstep : firstsTo (rCls P).1 (rCls P).2 (t + 1) = if (firstsTo (rCls P).1 (rCls P).2 t).length < (rCls P).2 ∧ gt (rCls P).1 t = ((firstsTo (rCls P).1 (rCls P).2 t).length : Int) then firstsTo (rCls P).1 (rCls P).2 t ++ [(t : Int)] else firstsTo (rCls P).1 (rCls P).2 t := rfl
        have HS := Lib.hid hstep; clear hstep
        by_cases hx : gt (rCls P).1 t = ((firstsTo (rCls P).1 (rCls P).2 t).length : Int)
        · have hs := HS.out
          rw [if_pos ⟨hlc, hx⟩] at hs
          have HS2 := Lib.hid hs; clear hs
          have hx' : (gt (rCls P).1 t == ((firstsTo (rCls P).1 (rCls P).2 t).length : Int)) = true := by simp [hx]
          clear hx
          go_wp2_with (at_builtin; go_must (refine wp_app_ints rfl _ _ rfl wA.heap.size _ (firstsTo (rCls P).1 (rCls P).2 t) rfl (hF.ext0 (World.grownBy_alloc _ _ _)) _ [(t : Int)] rfl Any (Own.ints (World.ownsRow_lit wr #[.int .i64 (t : Int)] 1 (Nat.zero_le _) (by decide) rfl) (by simp)) (by simp; omega) (by have := hg.size; simp; omega) ?_); intro v5 w5 hO5 hg5 _)
          have hgx : Ext wA w5 := grown_own (grown_trans hg (World.grownBy_alloc _ _ _)) hg5 (fun j hj hlt => by have := (hF.lt j hj).1; omega)
          go_roundw
          case rel => exact ⟨t + 1, by go_num, by omega, hgx, by rw [HS2.out]; exact hO5⟩
          case measure => simp [intOf]; omega
        · have hs := HS.out
          rw [if_neg (fun h => hx h.2)] at hs
          have HS2 := Lib.hid hs; clear hs
          have hx' : (gt (rCls P).1 t == ((firstsTo (rCls P).1 (rCls P).2 t).length : Int)) = false := by simp [hx]
          clear hx
          go_wp2
          go_roundw
          case rel => exact ⟨t + 1, by go_num, by omega, hg, by rw [HS2.out]; exact hF⟩
          case measure => simp [intOf]; omega
      · have hfull : rFirsts P = firstsTo (rCls P).1 (rCls P).2 t := by
          have := firstsTo_full (rCls P).1 (rCls P).2 t ((ordP P).toNat - t) (by omega)
          rw [show t + ((ordP P).toNat - t) = (ordP P).toNat by omega] at this
          exact this
        have HF := Lib.hid hfull; clear hfull
        go_wp2
        go_ret
        exact ⟨_, rfl, grown_trans hgw hg, by rw [HF.out]; exact hF.weak hgw.size⟩
    · have hke : t = (ordP P).toNat := by omega
      subst hke
      go_wp2
      go_ret
      exact ⟨_, rfl, grown_trans hgw hg, hF.weak hgw.size⟩

end Go.Proofs.Ytljdneobfbimiaa
