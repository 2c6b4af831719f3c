/-
  The reference: the number of generating lists.
-/
import Derived.Test.YtigbpdaomgagiaaGreatSSMob
import Derived.Test.YtigbpdaomgagiaaGreatSITup
namespace Go.Proofs.YtigbpdaomgagiaaGreat
open Go.RowKit

set_option maxRecDepth 100000 in
set_option maxHeartbeats 2000000 in
theorem l19Tuples_ok (P : Pr) (G : Grp P) (L : List (List (List Int))) (hL : LatL P L) (h32 : ordP P ≤ 32) (k : Nat) (hk : k ≤ 6) (w : World) (pv lv vv : Value) (Sp SS Sv : Nat → Prop) (hpv : PresV Sp w pv P) (hl : Rows3 SS w lv L) (hv : Ints Sv w vv (wmob (L.map (mskU P)))) :
    Calls Tryz.prog 77 #[pv, lv, vv, .int .i64 (k : Int)] w (Ret w fun _ v => v = .int .i64 (tW P L k L.length)) := by
  have hP := G.v
  have hlen := G.lat_len h32 hL
  have hne := (G.lat_top hL).1
  have hwl : (wmob (L.map (mskU P))).length = L.length := by rw [wmob_len, List.length_map]
  have hfa : ∀ i, i < L.length → SeqOk P (gt L i) ∧ (gt L i).length ≤ 6 ∧ 1 ≤ ordU P (gt L i) ∧ ordU P (gt L i) ≤ 32 := fun i hi => G.lat_ord h32 hL hi
  obtain ⟨vo, vp, vc, rfl, h3⟩ := hpv
  have hp0 := PresP.box h3 31
  have hg0 : Ext w (w.alloc (.cells #[vo, vp, vc] 31)) := World.grownBy_alloc _ _ _
  obtain ⟨vo6, vp6, vc6, _, _, hc0, hc1, hc2, h36⟩ := hp0.at
  simp only [Nat.zero_add] at hc1 hc2
  have hbx : ∀ w', Ext (w.alloc (.cells #[vo, vp, vc] 31)) w' → w'.cell? ⟨w.heap.size, 0, none⟩ = some vo6 ∧ w'.cell? ⟨w.heap.size, 1, none⟩ = some vp6 ∧ w'.cell? ⟨w.heap.size, 2, none⟩ = some vc6 := fun w' h => ⟨h.cell hc0 (by simp), h.cell hc1 (by simp), h.cell hc2 (by simp)⟩
  have hl0 := Rows3.ext hl hg0
  have hv0 := Ints.ext hv hg0
  obtain ⟨la, lc, hlv, _, _⟩ := Sl.shape hl
  subst hlv
  obtain ⟨va, vc9, hvv, _, _⟩ := hv.shape
  rw [hwl] at hvv
  subst hvv
  have hv1 : Sl IntEl Sv (w.alloc (.cells #[vo, vp, vc] 31)) (.slice va (wmob (L.map (mskU P))).length vc9) (wmob (L.map (mskU P))) := by rw [hwl]; exact hv0
  have HB := Lib.hid hbx; clear hbx hp0 hc0 hc1 hc2
  have HC := Lib.hid (And.intro hL (And.intro hfa (And.intro hwl hv1))); clear hL hfa hwl hv hv0 hv1 hl
  go_enter Tryz.func77, Tryz.ntmps77
  go_wp2
  generalize hw0 : w.alloc (.cells #[vo, vp, vc] 31) = w0 at *
  clear hw0
  go_loopw [9, 10] (fun sv iv wr => ∃ i : Nat, sv = .int .i64 (tW P L k i) ∧ iv = .int .i64 i ∧ i ≤ L.length ∧ Ext w0 wr) (fun _ iv _ => L.length - (intOf iv).toNat)
  case atStart => exact ⟨0, by rw [tW_zero], by go_num, by omega, Ext.refl _⟩
  case round =>
    obtain ⟨i, rfl, rfl, hi, hg⟩ := hrel
    by_cases hlt : i < L.length
    · have hlt' : (i : Int) < L.length := by omega
      obtain ⟨bl, ol, a2, cap2, hal, _, hbl, hcl, hru⟩ := Rows3.at hl0 i hlt
      subst hal
      obtain ⟨bm, om, ham, _, _, hcv0⟩ := Ints.at HC.out.2.2.2 i (by rw [HC.out.2.2.1]; exact hlt)
      subst ham
      have hstep := tW_succ P L k i hlt (HC.out.2.1 i hlt).2.2 hk
      have hfi := HC.out.2.1 i hlt
      obtain ⟨s, hs⟩ : ∃ s, s = tW P L k i := ⟨_, rfl⟩
      obtain ⟨m, hm⟩ : ∃ m, m = gt (wmob (L.map (mskU P))) i := ⟨_, rfl⟩
      obtain ⟨u, hu⟩ : ∃ u, u = gt L i := ⟨_, rfl⟩
      rw [← hm] at hcv0 hstep
      rw [← hs] at hstep ⊢
      rw [← hu] at hcl hru hstep hfi
      obtain ⟨o, ho⟩ : ∃ o, o = ordU P u := ⟨_, rfl⟩
      rw [← ho] at hstep hfi
      have HS := Lib.hid (And.intro hstep (And.intro hfi ho)); clear hstep hfi ho hs hm hu
      have HCV := Lib.hid hcv0; clear hcv0
      go_wp2
      obtain ⟨wo, rfl⟩ : ∃ wo : World, wo = wr := ⟨_, rfl⟩
      go_loopw [11, 12] (fun ov jv wr => ∃ j : Nat, ov = .int .i64 (o ^ j) ∧ jv = .int .i64 j ∧ j ≤ k ∧ Ext wo wr) (fun _ jv _ => k - (intOf jv).toNat)
      case atStart => exact ⟨0, by simp, by go_num, by omega, Ext.refl _⟩
      case round =>
        obtain ⟨j, rfl, rfl, hj, hgo⟩ := hrel
        have hgr := grown_trans hg hgo
        by_cases hltj : j < k
        · have hltj' : (j : Int) < k := by omega
          have hb := pow_bd HS.out.2.1.2.2 (j + 1) (by omega)
          have hs : o ^ (j + 1) = o ^ j * o := Int.pow_succ o j
          have hw : IntKind.i64.wrap (o ^ j * o) = o ^ (j + 1) := by rw [← hs]; exact IntWalk.i64_in _ (by omega)
          rw [w64] at hw
          obtain ⟨x, hx⟩ : ∃ x, x = o ^ j := ⟨_, rfl⟩
          obtain ⟨y, hy⟩ : ∃ y, y = o ^ (j + 1) := ⟨_, rfl⟩
          rw [← hx, ← hy] at hw
          rw [← hx]
          have e1 : ∀ w', Ext wr w' → w'.cell? ⟨w.heap.size, 0, none⟩ = some vo6 := fun w' h => (HB.out w' (grown_trans hgr h)).1
          have e2 : ∀ w', Ext wr w' → w'.cell? ⟨w.heap.size, 1, none⟩ = some vp6 := fun w' h => (HB.out w' (grown_trans hgr h)).2.1
          have e3 : ∀ w', Ext wr w' → w'.cell? ⟨w.heap.size, 2, none⟩ = some vc6 := fun w' h => (HB.out w' (grown_trans hgr h)).2.2
          have e4 : ∀ w', Ext wr w' → w'.cell? ⟨bl, ol + i, none⟩ = some (.slice a2 u.length cap2) := fun w' h => (grown_trans hgr h).cell hcl (by simp)
          have HY := Lib.hid (And.intro hy hw); clear hy hb hs hx hw
          go_wp2
          go_region_held3 (fun w' => Ext wr w') (first | exact grown_drew _ _ | assumption)
            (first
              | (go_at_call 60; refine Calls.mono (Calls.rel (w0 := wr) (by assumption) (l12Order_ok P hP _ _ _ u Any SS ⟨_, _, _, rfl, Pres3.ext h36 (grown_trans hgr (by assumption))⟩ (Rows2.ext hru (grown_trans hgr (by assumption))) HS.out.2.1.1 (by have := HS.out.2.1.2.1; omega))) ?_; rintro eB wB ⟨vB, rfl, hgB, hsB, hvB⟩; rw [show prodU P u u.length = o from HS.out.2.2.symm] at hvB; subst hvB))
          clear e1 e2 e3 e4
          go_wp2
          go_roundw
          case rel => exact ⟨j + 1, by rw [← HY.out.1]; exact congrArg _ ((w64 _).trans HY.out.2), by go_num, by omega, grown_trans hgo hgB⟩
          case measure => simp [intOf]; omega
        · have hje : j = k := by omega
          have hnl : ¬ (j : Int) < k := by omega
          obtain ⟨x, hx⟩ : ∃ x, x = o ^ j := ⟨_, rfl⟩
          rw [← hx]
          have hxk : x = o ^ k := by rw [hx, hje]
          have hcv := hgr.cell HCV.out (by simp)
          have HX := Lib.hid hxk; clear hx hje hxk
          go_wp2
          clear hcv
          go_roundw
          case rel => exact ⟨i + 1, by rw [HS.out.1, ← HX.out]; simp only [w64], by go_num, by omega, hgr⟩
          case measure => simp [intOf]; omega
    · have hie : i = L.length := by omega
      have hnl : ¬ (i : Int) < L.length := by omega
      subst hie
      obtain ⟨z, hz⟩ : ∃ z, z = tW P L k L.length := ⟨_, rfl⟩
      rw [← hz]
      have HZ := Lib.hid hz; clear hz
      go_wp2
      go_ret
      exact ⟨_, rfl, grown_trans hg0 hg, by rw [HZ.out]; rfl⟩

end Go.Proofs.YtigbpdaomgagiaaGreat
