/-
  spec.l12Within.
-/
import Derived.Test.YtdklekdpdbjfiaaGreatK7
namespace Go.Proofs.YtdklekdpdbjfiaaGreat
open Go.RowKit

set_option maxRecDepth 100000 in
set_option maxHeartbeats 2000000 in
theorem l12Within_ok (P : Pr) (G : Grp P) (w : World) (pv uv vv : Value) (U : List (List Int)) (K : List Int → Prop) (Sp Su Sv : Nat → Prop) (S : Sub P K) (hpv : PresV Sp w pv P) (hu : Rows2 Su w uv U) (hU : ∀ z ∈ U, Vec P.orders z) (hv : Rows2 Sv w vv (cseq P K)) :
    Calls Tryz.prog 89 #[pv, uv, vv] w (Ret w fun _ v => ∃ r : Bool, v = .bool r ∧ (r = true ↔ ∀ z ∈ U, K z)) := by
  obtain ⟨vo, vp, vc, rfl, h3⟩ := hpv
  have hp0 := PresP.box h3 31
  have hg0 : Ext w (w.alloc (.cells #[vo, vp, vc] 31)) := World.grownBy_alloc _ _ _
  obtain ⟨vo6, vp6, vc6, _, _, hc0, hc1, hc2, h36⟩ := hp0.at
  simp only [Nat.zero_add] at hc1 hc2
  have hbx : ∀ w', Ext (w.alloc (.cells #[vo, vp, vc] 31)) w' → w'.cell? ⟨w.heap.size, 0, none⟩ = some vo6 ∧ w'.cell? ⟨w.heap.size, 1, none⟩ = some vp6 ∧ w'.cell? ⟨w.heap.size, 2, none⟩ = some vc6 := fun w' h => ⟨h.cell hc0 (by simp), h.cell hc1 (by simp), h.cell hc2 (by simp)⟩
  have HB := Lib.hid hbx; clear hbx hp0
  have hu0 := Rows2.ext hu hg0
  have hv0 := Rows2.ext hv hg0
  obtain ⟨au, capu, rfl, _, _⟩ := Sl.shape hu
  obtain ⟨av, capv, rfl, _, _⟩ := Sl.shape hv
  have HU := Lib.hid hU; clear hu hv hU
  go_enter Tryz.func89, Tryz.ntmps89
  go_wp2
  clear hc0 hc1 hc2
  generalize hw0 : w.alloc (.cells #[vo, vp, vc] 31) = w0 at *
  clear hw0
  go_loopw [7] (fun iv wr => ∃ i : Nat, iv = .int .i64 i ∧ i ≤ U.length ∧ Ext w0 wr ∧ Hid (∀ j, j < i → K (gt U j))) (fun iv _ => U.length - (intOf iv).toNat)
  case atStart => exact ⟨0, by go_num, by omega, Ext.refl _, Lib.hid (fun j hj => by omega)⟩
  case round =>
    obtain ⟨i, rfl, hi, hg, hN⟩ := hrel
    by_cases hlt : i < U.length
    · have hlt' : (i : Int) < U.length := by omega
      obtain ⟨b, off, a2, cap2, hab, _, _, hc, hx⟩ := Rows2.at hu0 i hlt
      subst hab
      have hXV := HU.out _ (gt_mem hlt)
      have e1 : ∀ w', Ext wr w' → w'.cell? ⟨w.heap.size, 0, none⟩ = some vo6 := fun w' h => (HB.out w' (grown_trans hg h)).1
      have e2 : ∀ w', Ext wr w' → w'.cell? ⟨w.heap.size, 1, none⟩ = some vp6 := fun w' h => (HB.out w' (grown_trans hg h)).2.1
      have e3 : ∀ w', Ext wr w' → w'.cell? ⟨w.heap.size, 2, none⟩ = some vc6 := fun w' h => (HB.out w' (grown_trans hg h)).2.2
      have e4 : ∀ w', Ext wr w' → w'.cell? ⟨b, off + i, none⟩ = some (.slice a2 (gt U i).length cap2) := fun w' h => (grown_trans hg h).cell hc (by simp)
      obtain ⟨x, hxd⟩ : ∃ x, x = gt U i := ⟨_, rfl⟩
      rw [← hxd] at hx hXV e4
      have HX := Lib.hid (And.intro hxd hXV); clear hxd hXV hc
      go_wp2
      go_region_held3 (fun w' => Ext wr w') (first | exact grown_drew _ _ | exact Ext.refl _ | assumption)
        (first
          | (go_at_call 153; refine Calls.mono (Calls.rel (w0 := wr) (by assumption) (l12Has_ok P G _ _ _ _ K x Any _ _ S ⟨_, _, _, rfl, Pres3.ext h36 (grown_trans hg (by assumption))⟩ (Rows2.ext hv0 (grown_trans hg (by assumption))) (Ints.ext hx (grown_trans hg (by assumption))) HX.out.2)) ?_; rintro e4 w4 ⟨v4, rfl, hg4, hs4, r, rfl, hr⟩))
      clear e1 e2 e3 e4
      cases r with
      | true =>
        have hK := hr.1 rfl
        rw [HX.out.1] at hK
        have hN2 : Hid (∀ j, j < i + 1 → K (gt U j)) := Lib.hid (fun j hj => by
          rcases Nat.lt_succ_iff_lt_or_eq.1 hj with h | h
          · exact hN.out j h
          · subst h; exact hK)
        clear hr hK
        go_wp2
        go_roundw
        case rel => exact ⟨i + 1, by go_num, by omega, grown_trans hg hg4, hN2⟩
        case measure => simp [intOf]; omega
      | false =>
        have hno : ¬ ∀ z ∈ U, K z := fun h => by
          have := hr.2 (by rw [HX.out.1]; exact h _ (gt_mem hlt))
          cases this
        have HNO := Lib.hid hno; clear hr hno
        go_wp2
        go_ret
        exact ⟨_, rfl, grown_trans hg0 (grown_trans hg hg4), false, rfl, by simpa using HNO.out⟩
    · have hyes : ∀ z ∈ U, K z := fun z hz => by
        obtain ⟨j, hj, rfl⟩ := mem_gt hz
        exact hN.out j (by omega)
      have hnl : ¬ (i : Int) < U.length := by omega
      have HY := Lib.hid hyes; clear hyes hN
      go_wp2
      go_ret
      first | exact ⟨_, rfl, grown_trans hg0 hg, true, rfl, by simpa using HY.out⟩ | exact ⟨_, rfl, grown_trans hg0 hg, .inr ⟨rfl, HY.out⟩⟩

end Go.Proofs.YtdklekdpdbjfiaaGreat
