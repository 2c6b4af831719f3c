/-
  The reference: GeneratingTuples, GeneratorRank.
-/
import Derived.Test.YtigbpdaomgagiaaGreatSSTup
namespace Go.Proofs.YtigbpdaomgagiaaGreat
open Go.RowKit

set_option maxRecDepth 100000 in
set_option maxHeartbeats 4000000 in
theorem sTup_ok (P : Pr) (w : World) (pv : Value) (k : Int) (Sp : Nat → Prop) (hpv : PresV Sp w pv P) :
    Calls Tryz.prog 23 #[pv, .int .i64 k] w (Ret w fun _ v => v = .tuple #[.int .i64 (tupV P k), .int .i64 (tupC P k)]) := by
  obtain ⟨vo, vp, vc, rfl, h3⟩ := hpv
  have hp0 := PresP.box h3 31
  have hg0 : Ext w (w.alloc (.cells #[vo, vp, vc] 31)) := World.grownBy_alloc _ _ _
  obtain ⟨vo6, vp6, vc6, _, _, hc0, hc1, hc2, h36⟩ := hp0.at
  simp only [Nat.zero_add] at hc1 hc2
  have hbx : ∀ w', Ext (w.alloc (.cells #[vo, vp, vc] 31)) w' → w'.cell? ⟨w.heap.size, 0, none⟩ = some vo6 ∧ w'.cell? ⟨w.heap.size, 1, none⟩ = some vp6 ∧ w'.cell? ⟨w.heap.size, 2, none⟩ = some vc6 := fun w' h => ⟨h.cell hc0 (by simp), h.cell hc1 (by simp), h.cell hc2 (by simp)⟩
  have HB := Lib.hid hbx; clear hbx hp0
  have hcd := l19Code_ok P _ (.agg #[vo6, vp6, vc6]) Any ⟨_, _, _, rfl, h36⟩
  go_enter Tryz.func23, Tryz.ntmps23
  go_wp2_with fail
  clear hc0 hc1 hc2
  generalize hw0 : w.alloc (.cells #[vo, vp, vc] 31) = w0 at *
  clear hw0
  refine Calls.mono hcd ?_
  rintro e1 w1 ⟨v1, rfl, hg1, rfl⟩
  clear hcd
  by_cases hz : latC P = 0
  · have G := grp_of_r (latC_zero hz).1
    have h32 := (latC_zero hz).2
    have hC : tupC P k = if inB k 0 6 = true then 0 else 2 := by unfold tupC; rw [if_pos hz]
    obtain ⟨c, hc⟩ : ∃ c, c = latC P := ⟨_, rfl⟩
    have hc0' : c = 0 := by rw [hc]; exact hz
    rw [← hc]
    have HZ := Lib.hid (And.intro hz hC); clear hc hz hC
    subst hc0'
    cases hin : inB k 0 6 with
    | false =>
      have hV := tupV_no2 (P := P) hin
      have hCC := HZ.out.2
      rw [hin] at hCC
      have HV := Lib.hid (And.intro hV hCC); clear hV hCC
      go_wp2_with fail
      refine Calls.mono (l01In_ok k 0 6 w1) ?_
      rintro e2 w2 ⟨rfl, rfl⟩
      rw [hin]
      clear hin
      go_wp2
      go_ret2
      exact ⟨_, rfl, grown_trans hg0 hg1, by rw [HV.out.1, HV.out.2]; rfl⟩
    | true =>
      obtain ⟨n, hkn, hn6⟩ := inB_6 hin
      have hCC := HZ.out.2
      rw [hin] at hCC
      have HIN := Lib.hid hin
      have HV := Lib.hid hCC; clear hCC
      rw [hkn] at hin ⊢
      have HK := Lib.hid hkn; clear hkn
      go_wp2_with fail
      refine Calls.mono (l01In_ok (n : Int) 0 6 w1) ?_
      rintro e2 w2 ⟨rfl, rfl⟩
      rw [hin]
      clear hin
      obtain ⟨hc0, hc1, hc2⟩ := HB.out w1 hg1
      go_wp2_with fail
      clear hc0 hc1 hc2
      refine Calls.mono (l19Full_ok P G w1 _ Any h32 ⟨_, _, _, rfl, Pres3.ext h36 hg1⟩) ?_
      rintro e2 w2 ⟨v2, rfl, hg2, sv, mv, rfl, L, hL, hR, hM⟩
      have hV := tupV_ok HZ.out.1 HIN.out hL
      rw [HK.out, Int.toNat_natCast] at hV
      have hlen := G.lat_len h32 hL
      have hne := (G.lat_top hL).1
      have hm32 := lat_masks32 h32 (L := L)
      obtain ⟨ms, hmsd⟩ : ∃ ms, ms = L.map (mskU P) := ⟨_, rfl⟩
      have hml : ms.length = L.length := by rw [hmsd, List.length_map]
      rw [← hmsd] at hM hm32
      obtain ⟨sa, sc, hsv, _, _⟩ := Sl.shape hR
      subst hsv
      obtain ⟨am, cm, hmv, _, _⟩ := hM.shape
      rw [natI_len, hml] at hmv
      subst hmv
      have hg3 : Ext w2 (w2.alloc (.cells #[.slice sa L.length sc, .slice am L.length cm] 77)) := World.grownBy_alloc _ _ _
      have hb3 : ∀ w', Ext (w2.alloc (.cells #[.slice sa L.length sc, .slice am L.length cm] 77)) w' → w'.cell? ⟨w2.heap.size, 0, none⟩ = some (.slice sa L.length sc) ∧ w'.cell? ⟨w2.heap.size, 1, none⟩ = some (.slice am L.length cm) := fun w' h =>
        ⟨h.cell (by rw [World.cell?_alloc_at _ _ _ _ rfl]; rfl) (by simp), h.cell (by rw [World.cell?_alloc_at _ _ _ _ rfl]; rfl) (by simp)⟩
      have hR3 := Rows3.ext hR hg3
      have hM3 := Ints.ext hM hg3
      have HL := Lib.hid (And.intro hL (And.intro hV (And.intro hm32 (And.intro hmsd hb3)))); clear hL hV hm32 hmsd hb3 hR hM
      go_wp2
      generalize hw3 : w2.alloc (.cells #[.slice sa L.length sc, .slice am L.length cm] 77) = w3 at *
      clear hw3
      have hg03 := grown_trans hg1 (grown_trans hg2 hg3)
      have e1 : ∀ w', Ext w3 w' → w'.cell? ⟨w.heap.size, 0, none⟩ = some vo6 := fun w' h => (HB.out w' (grown_trans hg03 h)).1
      have e2 : ∀ w', Ext w3 w' → w'.cell? ⟨w.heap.size, 1, none⟩ = some vp6 := fun w' h => (HB.out w' (grown_trans hg03 h)).2.1
      have e3 : ∀ w', Ext w3 w' → w'.cell? ⟨w.heap.size, 2, none⟩ = some vc6 := fun w' h => (HB.out w' (grown_trans hg03 h)).2.2
      have e4 : ∀ w', Ext w3 w' → w'.cell? ⟨w2.heap.size, 0, none⟩ = some (.slice sa L.length sc) := fun w' h => (HL.out.2.2.2.2 w' h).1
      have e5 : ∀ w', Ext w3 w' → w'.cell? ⟨w2.heap.size, 1, none⟩ = some (.slice am L.length cm) := fun w' h => (HL.out.2.2.2.2 w' h).2
      have HP := Lib.hid h36; clear h36
      go_region_held3 (fun w' => Ext w3 w') (first | exact grown_drew _ _ | exact Ext.refl _ | assumption)
        (first
          | (revert hsB; intro hsB; go_at_call 77; refine Calls.mono (Calls.rel (w0 := w3) (by assumption) (l19Tuples_ok P G L HL.out.1 h32 n hn6 _ _ _ _ Any _ Any ⟨_, _, _, rfl, Pres3.ext HP.out (grown_trans hg03 (by assumption))⟩ (Rows3.ext hR3 (by assumption)) hVB)) ?_; rintro eC wC ⟨vC, rfl, hgC, hsC, hvC⟩; subst hvC)
          | (go_at_call 78; refine Calls.mono (Calls.rel (w0 := w3) (by assumption) (l19Mobius_ok ms L.length hml HL.out.2.2.1 hlen hne _ sa sc _ _ (Ints.ext hM3 (by assumption)))) ?_; rintro eB wB ⟨vB, rfl, hgB, hsB, hvB⟩; have hVI := hvB.ints (by rw [wmob_len]; omega); have hvsh := hVI.shape; rw [wmob_len, hml] at hvsh; obtain ⟨va, vcp, hvs, _, _⟩ := hvsh; subst hvs; have hVB : Ints Any wB (.slice va L.length vcp) (wmob (L.map (mskU P))) := (by rw [← HL.out.2.2.2.1]; exact hVI); clear hVI hvB))
      clear e1 e2 e3 e4 e5
      obtain ⟨z, hz⟩ : ∃ z, z = tW P L n L.length := ⟨_, rfl⟩
      rw [← hz]
      have HZ2 := Lib.hid hz; clear hz
      go_wp2
      go_ret2
      exact ⟨_, rfl, grown_trans hg0 (grown_trans hg03 hgC), by rw [HK.out, HL.out.2.1, ← HZ2.out, ← HK.out, HV.out]; rfl⟩
  · have hV := tupV_no (P := P) (k := k) hz
    have hC : tupC P k = latC P := by unfold tupC; rw [if_neg hz]
    obtain ⟨c, hc⟩ : ∃ c, c = latC P := ⟨_, rfl⟩
    rw [← hc] at hz hC ⊢
    have hne : (c != 0) = true := by simpa using hz
    have HC := Lib.hid (And.intro hV hC); clear hc hV hC
    go_wp2
    go_ret2
    exact ⟨_, rfl, grown_trans hg0 hg1, by rw [HC.out.1, HC.out.2]; rfl⟩

end Go.Proofs.YtigbpdaomgagiaaGreat
