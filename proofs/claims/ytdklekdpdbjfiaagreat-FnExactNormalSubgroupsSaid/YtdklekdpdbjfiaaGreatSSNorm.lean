/-
  spec.l19Normals, NormalSubgroups by the reference.
-/
import Derived.Test.YtdklekdpdbjfiaaGreatK9
import Derived.Test.YtdklekdpdbjfiaaGreatSNormL
namespace Go.Proofs.YtdklekdpdbjfiaaGreat
open Go.RowKit

theorem onesTo_yes {F : List (List (List Int))} {Z : List Nat} {k : Nat} (h : gt Z k = 1) : onesTo F Z (k + 1) = onesTo F Z k ++ [gt F k] := by rw [onesTo, if_pos h]
theorem onesTo_no {F : List (List (List Int))} {Z : List Nat} {k : Nat} (h : ¬ gt Z k = 1) : onesTo F Z (k + 1) = onesTo F Z k := by rw [onesTo, if_neg h]

set_option maxRecDepth 100000 in
set_option maxHeartbeats 4000000 in
theorem l19Normals_ok (P : Pr) (G : Grp P) (w : World) (pv : Value) (Sp : Nat → Prop) (h32 : ordP P ≤ 32) (hpv : PresV Sp w pv P) :
    Calls Tryz.prog 83 #[pv] w (Ret w fun w' v => ∃ L, LatL P L ∧ Rows3 Any w' v (nrTo P L L.length)) := by
  obtain ⟨vo, vp, vc, rfl, h3⟩ := hpv
  have hg0 : Ext w (w.alloc (.cells #[vo, vp, vc] 31)) := World.grownBy_alloc _ _ _
  have hf := l19Classes_ok P G _ (.agg #[vo, vp, vc]) Sp h32 ⟨_, _, _, rfl, h3.ext hg0⟩
  go_enter Tryz.func83, Tryz.ntmps83
  go_wp2_with fail
  generalize hw0 : w.alloc (.cells #[vo, vp, vc] 31) = w0 at *
  clear hw0
  refine Calls.mono hf ?_
  rintro e1 w1 ⟨v1, rfl, hg1, fv, zv, rfl, L, hL, hR, hZ⟩
  clear hf
  have hlen := G.lat_len h32 hL
  have hon := G.ones_eq hL L.length (Nat.le_refl _)
  obtain ⟨hfl, hzl⟩ := clS_len P L L.length
  obtain ⟨F, hF⟩ : ∃ F, F = (clS P L L.length).firsts := ⟨_, rfl⟩
  obtain ⟨Z, hZe⟩ : ∃ Z, Z = (clS P L L.length).sizes := ⟨_, rfl⟩
  rw [← hF] at hR hon hfl hzl
  rw [← hZe] at hZ hon hzl
  obtain ⟨fa, fc, hfv, _, _⟩ := Sl.shape hR
  subst hfv
  have hZI : Ints Any w1 zv (natI Z) := hZ.ints (by rw [natI_len]; omega)
  obtain ⟨za, zc, hzv, _, _⟩ := hZI.shape
  subst hzv
  have hzn : (natI Z).length = F.length := by rw [natI_len]; omega
  rw [hzn] at hZI
  have hZI' : Sl IntEl Any w1 (.slice za F.length zc) (natI Z) := hZI
  have hs1 : ∀ T, (w1.alloc (.cells #[] T)).heap.size = w1.heap.size + 1 := fun T => by simp
  have HL := Lib.hid (And.intro hL (And.intro hon (And.intro hzl hZI'))); clear hL hon hF hZe hZ hZI hZI'
  have HR := Lib.hid hR; clear hR
  rw [hzn]
  go_wp2
  go_loopw [5, 6] (fun ov kv wr => ∃ (k : Nat) (v4 : Value), v4 = ov ∧ kv = .int .i64 k ∧ k ≤ F.length ∧ Ext w1 wr ∧ Sh3 Any w1.heap.size wr v4 (onesTo F Z k)) (fun _ kv _ => F.length - (intOf kv).toNat)
  case atStart => exact ⟨0, _, rfl, rfl, by omega, World.grownBy_alloc _ _ _, Sh3.lit0 _ _ _ (Nat.le_refl _)⟩
  case round =>
    obtain ⟨k, v4, rfl, rfl, hk, hg, hO⟩ := hrel
    have hln := onesTo_len F Z k
    by_cases hlt : k < F.length
    · have hlt' : (k : Int) < F.length := by omega
      obtain ⟨bz, oz, haz, _, _, hcz⟩ := Ints.at HL.out.2.2.2 k (by rw [hzn]; exact hlt)
      cases haz
      rw [natI_gt (by rw [HL.out.2.2.1]; exact hlt)] at hcz
      have hczr := hg.cell hcz (by simp)
      obtain ⟨bl, ol, a2, cap2, hal, _, hbl, hcl, hru⟩ := Rows3.at HR.out k hlt
      subst hal
      have hclr := hg.cell hcl (by simp)
      by_cases h1 : gt Z k = 1
      · have hst := onesTo_yes (F := F) h1
        rw [h1] at hczr
        have huS : Rows2 (fun j => Any j ∧ j < w1.heap.size) wr (.slice a2 (gt F k).length cap2) (gt F k) := Rows2.mono hru (fun j _ hlt => ⟨⟨trivial, hlt⟩, Nat.lt_of_lt_of_le hlt hg.size, hg.block j hlt (by simp)⟩)
        have HS := Lib.hid (And.intro hst huS); clear hst huS hcz h1 hru
        have hczr : wr.cell? ⟨bz, oz + k, none⟩ = some (.int .i64 1) := hczr
        go_wp2_with (first | (at_builtin; refine wp_app_r3 rfl _ _ rfl Any w1.heap.size _ _ (onesTo F Z k) (gt F k) rfl wr hO HS.out.2 rfl rfl (by omega) hg.size ?_; intro v8 w8 hO8 hg8; have hg08 := grown_own hg hg8 (fun b hb hlt => by have := (hO.lt b hb).1; omega)) | fail)
        clear hczr hclr
        rw [← HS.out.1] at hO8
        go_roundw
        case rel => exact ⟨k + 1, v8, rfl, by go_num, by omega, hg08, hO8⟩
        case measure => simp [intOf]; omega
      · have hst := onesTo_no (F := F) h1
        have hne : (((gt Z k : Nat) : Int) == 1) = false := by
          have : ¬ ((gt Z k : Nat) : Int) = 1 := by omega
          simpa using this
        rw [← hst] at hO
        clear hst h1 hcz hru
        generalize gt Z k = z at *
        go_wp2
        clear hczr hclr hne
        go_roundw
        case rel => exact ⟨k + 1, v4, rfl, by go_num, by omega, hg, hO⟩
        case measure => simp [intOf]; omega
    · have hke : k = F.length := by omega
      have hnl : ¬ (k : Int) < F.length := by omega
      have hrows := hO.rows (by omega)
      rw [hke, HL.out.2.1] at hrows
      obtain ⟨az, cz, hvz⟩ := hO.shape
      subst hvz
      generalize (onesTo F Z k).length = nz at *
      have HRW := Lib.hid hrows; clear hrows hO hke
      go_wp2
      go_ret
      exact ⟨_, rfl, grown_trans hg0 (grown_trans hg1 hg), L, HL.out.1, Rows3.sub HRW.out (fun _ _ _ => trivial)⟩

set_option maxRecDepth 100000 in
set_option maxHeartbeats 2000000 in
theorem sNorm_ok (P : Pr) (w : World) (pv : Value) (Sp : Nat → Prop) (hpv : PresV Sp w pv P) :
    Calls Tryz.prog 41 #[pv] w (Ret w fun w' v => ∃ a n c, v = .tuple #[.slice a n c, .int .i64 (latC P)] ∧ Rows3 Any w' (.slice a n c) (nrmL P)) := by
  obtain ⟨vo, vp, vc, rfl, h3⟩ := hpv
  have hp0 := PresP.box h3 31
  have hg0 : Ext w (w.alloc (.cells #[vo, vp, vc] 31)) := World.grownBy_alloc _ _ _
  obtain ⟨vo6, vp6, vc6, _, _, hc0, hc1, hc2, h36⟩ := hp0.at
  simp only [Nat.zero_add] at hc1 hc2
  have hbx : ∀ w', Ext (w.alloc (.cells #[vo, vp, vc] 31)) w' → w'.cell? ⟨w.heap.size, 0, none⟩ = some vo6 ∧ w'.cell? ⟨w.heap.size, 1, none⟩ = some vp6 ∧ w'.cell? ⟨w.heap.size, 2, none⟩ = some vc6 := fun w' h => ⟨h.cell hc0 (by simp), h.cell hc1 (by simp), h.cell hc2 (by simp)⟩
  have HB := Lib.hid hbx; clear hbx hp0
  have hcd := l19Code_ok P _ (.agg #[vo6, vp6, vc6]) Any ⟨_, _, _, rfl, h36⟩
  go_enter Tryz.func41, Tryz.ntmps41
  go_wp2_with fail
  clear hc0 hc1 hc2
  generalize hw0 : w.alloc (.cells #[vo, vp, vc] 31) = w0 at *
  clear hw0
  refine Calls.mono hcd ?_
  rintro e1 w1 ⟨v1, rfl, hg1, rfl⟩
  clear hcd
  obtain ⟨c, hc⟩ : ∃ c, c = latC P := ⟨_, rfl⟩
  rw [← hc]
  have HC := Lib.hid hc
  by_cases hz : latC P = 0
  · have G := grp_of_r (latC_zero hz).1
    have h32 := (latC_zero hz).2
    have hc0' : c = 0 := by rw [hc]; exact hz
    have HZ := Lib.hid hz; clear hc hz
    subst hc0'
    obtain ⟨hc0, hc1, hc2⟩ := HB.out w1 hg1
    go_wp2_with fail
    clear hc0 hc1 hc2
    refine Calls.mono (l19Normals_ok P G w1 _ Any h32 ⟨_, _, _, rfl, Pres3.ext h36 hg1⟩) ?_
    rintro e2 w2 ⟨v2, rfl, hg2, L, hL, hR⟩
    have hall := nrmL_ok HZ.out hL
    have hlen := nrmL_len P
    have hbd := (nrmL_bd P).2
    rw [hall] at hlen hbd
    obtain ⟨X, hX⟩ : ∃ X, X = nrTo P L L.length := ⟨_, rfl⟩
    rw [← hX] at hR hall hlen hbd
    obtain ⟨la, lc, hlv, _, _⟩ := Sl.shape hR
    subst hlv
    have HL := Lib.hid (And.intro hbd hall); clear hbd hall hX
    go_wp2_with fail
    refine Calls.mono (l19Own_ok w2 _ X _ hR HL.out.1 (by omega)) ?_
    rintro e3 w3 ⟨v3, rfl, hg3, hO⟩
    have hD := hO.toD (by omega)
    obtain ⟨ra, rc, hrv, _, _⟩ := SlD.shape hD
    subst hrv
    have hR3 := Rows3D.rows hD
    have HR := Lib.hid hR3; clear hR3 hD hO
    go_wp2
    go_ret2
    exact ⟨_, rfl, grown_trans hg0 (grown_trans hg1 (grown_trans hg2 hg3)), _, _, _, by rw [← HC.out]; rfl, by rw [HL.out.2]; exact Rows3.sub HR.out (fun _ _ _ => trivial)⟩
  · have hall := nrmL_no hz
    rw [← hc] at hz
    have hne : (c != 0) = true := by simpa using hz
    have HA := Lib.hid hall; clear hall hc
    go_wp2
    go_ret2
    exact ⟨_, rfl, grown_trans hg0 hg1, none, 0, 0, by rw [← HC.out]; rfl, by rw [HA.out]; exact ⟨none, 0, rfl, ⟨by simp, by simp, fun _ => rfl⟩, fun i hi => by simp at hi⟩⟩

end Go.Proofs.YtdklekdpdbjfiaaGreat
