/-
  The reference: GeneratorRank.
-/
import Derived.Test.YtigbpdaomgagiaaGreatSSTup
namespace Go.Proofs.YtigbpdaomgagiaaGreat
open Go.RowKit

set_option maxRecDepth 100000 in
set_option maxHeartbeats 4000000 in
theorem sRank_ok (P : Pr) (w : World) (pv : Value) (Sp : Nat → Prop) (hpv : PresV Sp w pv P) :
    Calls Tryz.prog 30 #[pv] w (Ret w fun _ v => v = .tuple #[.int .i64 (rkV P), .int .i64 (latC P)]) := by
  obtain ⟨vo, vp, vc, rfl, h3⟩ := hpv
  have hp0 := PresP.box h3 31
  have hg0 : Ext w (w.alloc (.cells #[vo, vp, vc] 31)) := World.grownBy_alloc _ _ _
  obtain ⟨vo6, vp6, vc6, _, _, hc0, hc1, hc2, h36⟩ := hp0.at
  simp only [Nat.zero_add] at hc1 hc2
  have hbx : ∀ w', Ext (w.alloc (.cells #[vo, vp, vc] 31)) w' → w'.cell? ⟨w.heap.size, 0, none⟩ = some vo6 ∧ w'.cell? ⟨w.heap.size, 1, none⟩ = some vp6 ∧ w'.cell? ⟨w.heap.size, 2, none⟩ = some vc6 := fun w' h => ⟨h.cell hc0 (by simp), h.cell hc1 (by simp), h.cell hc2 (by simp)⟩
  have HB := Lib.hid hbx; clear hbx hp0
  have hcd := l19Code_ok P _ (.agg #[vo6, vp6, vc6]) Any ⟨_, _, _, rfl, h36⟩
  go_enter Tryz.func30, Tryz.ntmps30
  go_wp2_with fail
  clear hc0 hc1 hc2
  generalize hw0 : w.alloc (.cells #[vo, vp, vc] 31) = w0 at *
  clear hw0
  refine Calls.mono hcd ?_
  rintro e1 w1 ⟨v1, rfl, hg1, rfl⟩
  clear hcd
  by_cases hz : latC P = 0
  · have G := grp_of_r (latC_zero hz).1
    have h32 := (latC_zero hz).2
    have hn6 := G.v.n6
    obtain ⟨c, hc⟩ : ∃ c, c = latC P := ⟨_, rfl⟩
    have hc0' : c = 0 := by rw [hc]; exact hz
    rw [← hc]
    have HZ := Lib.hid (And.intro hz hc); clear hc hz
    subst hc0'
    obtain ⟨hc0, hc1, hc2⟩ := HB.out w1 hg1
    go_wp2_with fail
    clear hc0 hc1 hc2
    refine Calls.mono (l19Full_ok P G w1 _ Any h32 ⟨_, _, _, rfl, Pres3.ext h36 hg1⟩) ?_
    rintro e2 w2 ⟨v2, rfl, hg2, sv, mv, rfl, L, hL, hR, hM⟩
    have hlen := G.lat_len h32 hL
    have hne := (G.lat_top hL).1
    have hend := G.tW_end h32 hL
    have hm32 := lat_masks32 h32 (L := L)
    obtain ⟨ms, hmsd⟩ : ∃ ms, ms = L.map (mskU P) := ⟨_, rfl⟩
    have hml : ms.length = L.length := by rw [hmsd, List.length_map]
    rw [← hmsd] at hM hm32
    obtain ⟨sa, sc, hsv, _, _⟩ := Sl.shape hR
    subst hsv
    obtain ⟨am, cm, hmv, _, _⟩ := hM.shape
    rw [natI_len, hml] at hmv
    subst hmv
    have hg3 : Ext w2 (w2.alloc (.cells #[.slice sa L.length sc, .slice am L.length cm] 77)) := World.grownBy_alloc _ _ _
    have hb3 : ∀ w', Ext (w2.alloc (.cells #[.slice sa L.length sc, .slice am L.length cm] 77)) w' → w'.cell? ⟨w2.heap.size, 0, none⟩ = some (.slice sa L.length sc) ∧ w'.cell? ⟨w2.heap.size, 1, none⟩ = some (.slice am L.length cm) := fun w' h =>
      ⟨h.cell (by rw [World.cell?_alloc_at _ _ _ _ rfl]; rfl) (by simp), h.cell (by rw [World.cell?_alloc_at _ _ _ _ rfl]; rfl) (by simp)⟩
    have hR3 := Rows3.ext hR hg3
    have hM3 := Ints.ext hM hg3
    obtain ⟨hx0, hx1⟩ := hb3 _ (Ext.refl _)
    have HL := Lib.hid (And.intro hL (And.intro hend (And.intro hm32 (And.intro hmsd hb3)))); clear hL hend hm32 hmsd hb3 hR hM
    go_wp2_with fail
    generalize hw3 : w2.alloc (.cells #[.slice sa L.length sc, .slice am L.length cm] 77) = w3 at *
    clear hw3 hx0 hx1
    have hg03 := grown_trans hg1 (grown_trans hg2 hg3)
    refine Calls.mono (l19Mobius_ok ms L.length hml HL.out.2.2.1 hlen hne w3 sa sc _ _ hM3) ?_
    rintro eB wB ⟨vB, rfl, hgB, hvB⟩
    have hVI := hvB.ints (by rw [wmob_len]; omega)
    have hvsh := hVI.shape
    rw [wmob_len, hml] at hvsh
    obtain ⟨va, vcp, hvs, _, _⟩ := hvsh
    subst hvs
    have hVB : Ints Any wB (.slice va L.length vcp) (wmob (L.map (mskU P))) := by rw [← HL.out.2.2.2.1]; exact hVI
    clear hVI hvB
    have hg0B := grown_trans hg03 hgB
    go_wp2
    go_loopw [7] (fun kv wr => ∃ k : Nat, kv = .int .i64 k ∧ k ≤ P.orders.length ∧ Ext wB wr ∧ Hid (∀ j, j < k → tW P L j L.length = 0)) (fun kv _ => 7 - (intOf kv).toNat)
    case atStart => exact ⟨0, by go_num, by omega, Ext.refl _, Lib.hid (fun j hj => by omega)⟩
    case round =>
      obtain ⟨k, rfl, hk, hg, hJ⟩ := hrel
      have hg0r := grown_trans hg0B hg
      have hgw := grown_trans hg0 hg0r
      by_cases hk6 : k < 6
      · have hk6' : (k : Int) < 6 := by omega
        have hg3r := grown_trans hgB hg
        have htk := l19Tuples_ok P G L HL.out.1 h32 k (by omega) wr _ _ _ Any _ Any ⟨_, _, _, rfl, Pres3.ext h36 hg0r⟩ (Rows3.ext hR3 hg3r) (Ints.ext hVB hg)
        obtain ⟨hc0, hc1, hc2⟩ := HB.out wr hg0r
        obtain ⟨hx0, hx1⟩ := HL.out.2.2.2.2 wr hg3r
        obtain ⟨z, hz⟩ : ∃ z, z = tW P L k L.length := ⟨_, rfl⟩
        rw [← hz] at htk
        go_wp2_with fail
        clear hc0 hc1 hc2 hx0 hx1
        refine Calls.mono htk ?_
        rintro e3 w9 ⟨v3, rfl, hg9, rfl⟩
        clear htk
        by_cases hz0 : z = 0
        · have hkn : k < P.orders.length := by
            refine Classical.byContradiction fun hn => ?_
            have : k = P.orders.length := by omega
            rw [this, hz0] at hz
            exact HL.out.2.1 hz.symm
          have hJ2 : ∀ j, j < k + 1 → tW P L j L.length = 0 := fun j hj => by
            rcases Nat.lt_succ_iff_lt_or_eq.1 hj with h | h
            · exact hJ.out j h
            · rw [h, ← hz, hz0]
          have HJ2 := Lib.hid hJ2; clear hJ2 hz hJ
          subst hz0
          go_wp2
          go_roundw
          case rel => exact ⟨k + 1, by go_num, by omega, grown_trans hg hg9, HJ2⟩
          case measure => simp [intOf]; omega
        · have hV := rkV_ok HZ.out.1 HL.out.1 (r := k) ⟨by rw [← hz]; exact hz0, hJ.out⟩
          have hne0 : (z == 0) = false := by simpa using hz0
          have HV := Lib.hid hV; clear hV hz hJ hz0
          go_wp2
          go_ret2
          exact ⟨_, rfl, grown_trans hgw hg9, by rw [HV.out, ← HZ.out.2]; rfl⟩
      · have hke : k = 6 ∧ k = P.orders.length := by omega
        have hV := rkV_ok HZ.out.1 HL.out.1 (r := k) ⟨by rw [hke.2]; exact HL.out.2.1, hJ.out⟩
        have hnl : ¬ (k : Int) < 6 := by omega
        have HV := Lib.hid hV; clear hV hJ hke
        go_wp2
        go_ret2
        exact ⟨_, rfl, hgw, by rw [HV.out, ← HZ.out.2]; rfl⟩
  · have hV := rkV_no (P := P) hz
    obtain ⟨c, hc⟩ : ∃ c, c = latC P := ⟨_, rfl⟩
    rw [← hc] at hz ⊢
    have hne : (c != 0) = true := by simpa using hz
    have HC := Lib.hid (And.intro hV hc); clear hc hV
    go_wp2
    go_ret2
    exact ⟨_, rfl, grown_trans hg0 hg1, by rw [HC.out.1, ← HC.out.2]; rfl⟩

end Go.Proofs.YtigbpdaomgagiaaGreat
