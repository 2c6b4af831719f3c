/-
  MaximalSubgroups by the reference.
-/
import Derived.Test.YtigbpdaomgagiaaGreatSSMax
namespace Go.Proofs.YtigbpdaomgagiaaGreat
open Go.RowKit

set_option maxRecDepth 100000 in
set_option maxHeartbeats 2000000 in
theorem sMax_ok (P : Pr) (w : World) (pv : Value) (Sp : Nat → Prop) (hpv : PresV Sp w pv P) :
    Calls Tryz.prog 32 #[pv] w (Ret w fun w' v => ∃ a n c, v = .tuple #[.slice a n c, .int .i64 (latC P)] ∧ Rows3 Any w' (.slice a n c) (maxL P)) := by
  obtain ⟨vo, vp, vc, rfl, h3⟩ := hpv
  have hp0 := PresP.box h3 31
  have hg0 : Ext w (w.alloc (.cells #[vo, vp, vc] 31)) := World.grownBy_alloc _ _ _
  obtain ⟨vo6, vp6, vc6, _, _, hc0, hc1, hc2, h36⟩ := hp0.at
  simp only [Nat.zero_add] at hc1 hc2
  have hbx : ∀ w', Ext (w.alloc (.cells #[vo, vp, vc] 31)) w' → w'.cell? ⟨w.heap.size, 0, none⟩ = some vo6 ∧ w'.cell? ⟨w.heap.size, 1, none⟩ = some vp6 ∧ w'.cell? ⟨w.heap.size, 2, none⟩ = some vc6 := fun w' h => ⟨h.cell hc0 (by simp), h.cell hc1 (by simp), h.cell hc2 (by simp)⟩
  have HB := Lib.hid hbx; clear hbx hp0
  have hcd := l19Code_ok P _ (.agg #[vo6, vp6, vc6]) Any ⟨_, _, _, rfl, h36⟩
  go_enter Tryz.func32, Tryz.ntmps32
  go_wp2_with fail
  clear hc0 hc1 hc2
  generalize hw0 : w.alloc (.cells #[vo, vp, vc] 31) = w0 at *
  clear hw0
  refine Calls.mono hcd ?_
  rintro e1 w1 ⟨v1, rfl, hg1, rfl⟩
  clear hcd
  obtain ⟨c, hc⟩ : ∃ c, c = latC P := ⟨_, rfl⟩
  rw [← hc]
  have HC := Lib.hid hc
  by_cases hz : latC P = 0
  · have G := grp_of_r (latC_zero hz).1
    have h32 := (latC_zero hz).2
    have hc0' : c = 0 := by rw [hc]; exact hz
    have HZ := Lib.hid hz; clear hc hz
    subst hc0'
    obtain ⟨hc0, hc1, hc2⟩ := HB.out w1 hg1
    go_wp2_with fail
    clear hc0 hc1 hc2
    refine Calls.mono (l19Maximal_ok P G w1 _ Any h32 ⟨_, _, _, rfl, Pres3.ext h36 hg1⟩) ?_
    rintro e2 w2 ⟨v2, rfl, hg2, L, hL, hR⟩
    have hall := maxL_ok HZ.out hL
    have hlen := maxL_len P
    have hbd := (maxL_bd P).2
    rw [hall] at hlen hbd
    obtain ⟨X, hX⟩ : ∃ X, X = maxTo L (L.map (mskU P)) L.length := ⟨_, rfl⟩
    rw [← hX] at hR hall hlen hbd
    obtain ⟨la, lc, hlv, _, _⟩ := Sl.shape hR
    subst hlv
    have HL := Lib.hid (And.intro hbd hall); clear hbd hall hX
    go_wp2_with fail
    refine Calls.mono (l19Own_ok w2 _ X _ hR HL.out.1 (by omega)) ?_
    rintro e3 w3 ⟨v3, rfl, hg3, hO⟩
    have hD := hO.toD (by omega)
    obtain ⟨ra, rc, hrv, _, _⟩ := SlD.shape hD
    subst hrv
    have hR3 := Rows3D.rows hD
    have HR := Lib.hid hR3; clear hR3 hD hO
    go_wp2
    go_ret2
    exact ⟨_, rfl, grown_trans hg0 (grown_trans hg1 (grown_trans hg2 hg3)), _, _, _, by rw [← HC.out]; rfl, by rw [HL.out.2]; exact Rows3.sub HR.out (fun _ _ _ => trivial)⟩
  · have hall := maxL_no hz
    rw [← hc] at hz
    have hne : (c != 0) = true := by simpa using hz
    have HA := Lib.hid hall; clear hall hc
    go_wp2
    go_ret2
    exact ⟨_, rfl, grown_trans hg0 hg1, none, 0, 0, by rw [← HC.out]; rfl, by rw [HA.out]; exact ⟨none, 0, rfl, ⟨by simp, by simp, fun _ => rfl⟩, fun i hi => by simp at hi⟩⟩

end Go.Proofs.YtigbpdaomgagiaaGreat
