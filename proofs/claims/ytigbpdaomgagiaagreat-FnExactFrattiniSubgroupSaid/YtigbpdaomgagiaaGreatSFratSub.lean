/-
  FrattiniSubgroup on both sides.
-/
import Derived.Test.YtigbpdaomgagiaaGreatSFratLaw
import Derived.Test.YtigbpdaomgagiaaGreatSMaxSub
import Derived.Test.YtigbpdaomgagiaaGreatSMeetW
import Derived.Test.YtigbpdaomgagiaaGreatSSMeet
import Derived.Test.YtigbpdaomgagiaaGreatSSWhole
import Derived.Test.YtigbpdaomgagiaaGreatK4
namespace Go.Proofs.YtigbpdaomgagiaaGreat
open Go.RowKit

set_option maxRecDepth 100000 in
set_option maxHeartbeats 1000000 in
theorem whole_ok (P : Pr) (G : Grp P) (w : World) (p : Value) (Sp : Nat → Prop) (hp : PresP Sp w p P) :
    Calls Tryz.prog 101 #[p] w (Ret w fun w' v => RowsO w.heap.size w' v (cseq P (Vec P.orders))) := by
  have hn6 := G.v.n6
  have hgen := generators_ok P G.v w p Sp hp
  obtain ⟨pb, po, rfl⟩ := hp.shape
  have hl : (gensOf P.orders.length).length ≤ 6 := by rw [gensOf_len]; exact hn6
  rw [G.cseq_all]
  generalize gensOf P.orders.length = GS at *
  go_enter Tryz.func101, Tryz.ntmps101
  go_wp2_with fail
  refine Calls.mono hgen ?_
  rintro e1 w1 ⟨v1, rfl, hg1, hO⟩
  obtain ⟨az, capz, hvz, _, _⟩ := SlD.shape (hO.toD (by omega))
  subst hvz
  clear hgen
  go_wp2
  go_ret
  exact ⟨_, rfl, hg1, hO⟩

set_option maxRecDepth 100000 in
set_option maxHeartbeats 2000000 in
theorem iFrat_ok (P : Pr) (w : World) (pv : Value) (Sp : Nat → Prop) (hpv : PresV Sp w pv P) :
    Calls Tryz.prog 49 #[pv] w (Ret w fun w' v => ∃ a n c, v = .tuple #[.slice a n c, .int .i64 (latC P)] ∧ RowsO w.heap.size w' (.slice a n c) (fratL P)) := by
  obtain ⟨vo, vp, vc, rfl, h3⟩ := hpv
  have hp0 := PresP.box h3 31
  have hg0 : Ext w (w.alloc (.cells #[vo, vp, vc] 31)) := World.grownBy_alloc _ _ _
  have hlat := latticeOf_ok P _ _ Any hp0
  go_enter Tryz.func49, Tryz.ntmps49
  go_wp2_with fail
  generalize hw0 : w.alloc (.cells #[vo, vp, vc] 31) = w0 at *
  clear hw0
  refine Calls.mono hlat ?_
  rintro e1 w1 ⟨v1, rfl, hg1, lp, rfl, hno, hyes⟩
  clear hlat
  have hgw1 := grown_trans hg0 hg1
  by_cases hz : latC P = 0
  · obtain ⟨lb, L, rfl, hL, hA⟩ := hyes hz
    obtain ⟨hlo, lv, mv, hX, hO, hM⟩ := hA
    have G := grp_of_r (latC_zero hz).1
    have h32 := (latC_zero hz).2
    have hn6 := G.v.n6
    have hall := maxL_ok hz hL
    have hln := maxL_len P
    have hms := maxL_sub hz hL
    have hfr := fratL_ok hz hL
    have hlen := G.lat_len h32 hL
    have hM2 : OwnV w0.heap.size 101 w1 mv ((L.map (mskU P)).map uV) := by rw [List.map_map]; exact hM
    obtain ⟨c, hc⟩ : ∃ c, c = latC P := ⟨_, rfl⟩
    have hc0 : c = 0 := by rw [hc]; exact hz
    rw [← hc]
    have hwh := whole_ok P G w1 _ Any (hp0.ext hg1)
    have hmx := fun (w2 : World) (hg : Ext w1 w2) => maximal_ok (L.map (mskU P)) L (by simp) (lat_masks h32) hlen (G.lat_top hL).1 w2 w0.heap.size lb _ lv mv (hX.ext hg) (hM2.kept hg (by cases hv : mv.ownBlock <;> simp)) (hO.ext rdRows hg) (Nat.le_trans hg1.size hg.size)
    rw [← hall] at hmx
    obtain ⟨M, hMd⟩ : ∃ M, M = maxL P := ⟨_, rfl⟩
    rw [← hMd] at hmx hln hms hfr
    have HC := Lib.hid (And.intro hc (And.intro hfr (And.intro hms hmx))); clear hc hall hO hL hM hM2 hno hyes hz hX hfr hms hmx hMd
    subst hc0
    go_wp2_with fail
    refine Calls.mono hwh ?_
    rintro e2 w2 ⟨v2, rfl, hg2, hW⟩
    clear hwh
    have hlW := G.cseq_len G.sub_all
    obtain ⟨wa, wc, hvw, _, _⟩ := SlD.shape (hW.toD (by omega))
    subst hvw
    go_wp2_with fail
    refine Calls.mono (HC.out.2.2.2 w2 hg2) ?_
    rintro e3 w3 ⟨v3, rfl, hg3, hR⟩
    have hR3 := Rows3D.rows (hR.toD (by omega))
    obtain ⟨ra, rc, hrv, _, _⟩ := SlD.shape (hR.toD (by omega))
    subst hrv
    clear hR
    have hW3 := hW.ext rdOwn hg3
    have hgw3 := grown_trans hgw1 (grown_trans hg2 hg3)
    go_wp2
    go_loopw [6, 20] (fun ov iv wr => ∃ (i : Nat) (v6 : Value), v6 = ov ∧ iv = .int .i64 i ∧ i ≤ M.length ∧ Ext w3 wr ∧ RowsO w.heap.size wr v6 (cseq P (frTo P M i))) (fun _ iv _ => M.length - (intOf iv).toNat)
    case atStart => exact ⟨0, _, rfl, rfl, by omega, Ext.refl _, hW3.weak (by have := hgw1.size; omega)⟩
    case round =>
      clear hW hW3
      obtain ⟨i, v6, rfl, rfl, hi, hg, hO⟩ := hrel
      have Sf := G.frTo_sub HC.out.2.2.1 i hi
      have hlf := G.cseq_len Sf
      have hD := hO.toD (by omega)
      obtain ⟨fa, fc, hvf, _, _⟩ := SlD.shape hD
      subst hvf
      by_cases hlt : i < M.length
      · have hlt' : (i : Int) < M.length := by omega
        obtain ⟨bl, ol, a2, cap2, hal, _, hbl, hcl, hru⟩ := Rows3.at hR3 i hlt
        subst hal
        have hb := HC.out.2.2.1 _ (gt_mem hlt)
        have hcr := hg.cell hcl (by simp)
        have hru2 := Rows2.ext hru hg
        rw [hb.2] at hru2
        have hmt := meet_ok P G wr _ _ _ (frTo P M i) (genP P (fun z => z ∈ gt M i)) Any _ _ Sf (G.subB hb) ((hp0.ext (grown_trans hg1 (grown_trans hg2 hg3))).ext hg) (RowsD.rows hD) hru2
        rw [← hb.2] at hmt
        have HB := Lib.hid hb; clear hb
        go_wp2_with fail
        refine Calls.mono hmt ?_
        rintro e4 w4 ⟨v4, rfl, hg4, hO4⟩
        clear hmt hcr
        go_wp2
        go_roundw
        case rel => exact ⟨i + 1, v4, rfl, by go_num, by omega, grown_trans hg hg4, hO4.weak (by have := hgw3.size; have := hg.size; omega)⟩
        case measure => simp [intOf]; omega
      · have hie : i = M.length := by omega
        have hnl : ¬ (i : Int) < M.length := by omega
        rw [hie, ← HC.out.2.1] at hO hD
        rw [hie, ← HC.out.2.1] at *
        clear hie
        generalize (fratL P).length = nf at *
        go_wp2
        go_ret2
        exact ⟨_, rfl, grown_trans hgw3 hg, _, _, _, by rw [← HC.out.1]; rfl, hO⟩
  · have hlp := hno hz
    subst hlp
    have hall := fratL_no hz
    obtain ⟨c, hc⟩ : ∃ c, c = latC P := ⟨_, rfl⟩
    rw [← hc] at hz ⊢
    have hne : (c != 0) = true := by simpa using hz
    have HC := Lib.hid (And.intro hc hall); clear hc hall hno hyes
    go_wp2
    go_ret2
    exact ⟨_, rfl, hgw1, none, 0, 0, by rw [← HC.out.1]; rfl, by rw [HC.out.2]; exact SlO.nil _ _ _ _⟩

set_option maxRecDepth 100000 in
set_option maxHeartbeats 2000000 in
theorem l19Frattini_ok (P : Pr) (hz : latC P = 0) (G : Grp P) (w : World) (pv : Value) (Sp : Nat → Prop) (hpv : PresV Sp w pv P) :
    Calls Tryz.prog 100 #[pv] w (Ret w fun w' v => Rows2 Any w' v (fratL P)) := by
  have h32 := (latC_zero hz).2
  have hn6 := G.v.n6
  obtain ⟨vo, vp, vc, rfl, h3⟩ := hpv
  have hp0 := PresP.box h3 31
  have hg0 : Ext w (w.alloc (.cells #[vo, vp, vc] 31)) := World.grownBy_alloc _ _ _
  obtain ⟨vo6, vp6, vc6, _, _, hc0, hc1, hc2, h36⟩ := hp0.at
  simp only [Nat.zero_add] at hc1 hc2
  have hbx : ∀ w', Ext (w.alloc (.cells #[vo, vp, vc] 31)) w' → w'.cell? ⟨w.heap.size, 0, none⟩ = some vo6 ∧ w'.cell? ⟨w.heap.size, 1, none⟩ = some vp6 ∧ w'.cell? ⟨w.heap.size, 2, none⟩ = some vc6 := fun w' h => ⟨h.cell hc0 (by simp), h.cell hc1 (by simp), h.cell hc2 (by simp)⟩
  have HB := Lib.hid hbx; clear hbx hp0
  have hwh := l12Whole_ok P G.v _ (.agg #[vo6, vp6, vc6]) Any ⟨_, _, _, rfl, h36⟩
  rw [← G.cseq_all] at hwh
  have HZ := Lib.hid hz; clear hz
  go_enter Tryz.func100, Tryz.ntmps100
  go_wp2_with fail
  clear hc0 hc1 hc2
  generalize hw0 : w.alloc (.cells #[vo, vp, vc] 31) = w0 at *
  clear hw0
  refine Calls.mono hwh ?_
  rintro e1 w1 ⟨v1, rfl, hg1, hW⟩
  clear hwh
  obtain ⟨wa, wc, hvw, _, _⟩ := Sl.shape hW
  subst hvw
  obtain ⟨hc0, hc1, hc2⟩ := HB.out w1 hg1
  go_wp2_with fail
  clear hc0 hc1 hc2
  refine Calls.mono (l19Maximal_ok P G w1 _ Any h32 ⟨_, _, _, rfl, Pres3.ext h36 hg1⟩) ?_
  rintro e2 w2 ⟨v2, rfl, hg2, L, hL, hR3⟩
  have hall := maxL_ok HZ.out hL
  have hln := maxL_len P
  have hms := maxL_sub HZ.out hL
  have hfr := fratL_ok HZ.out hL
  rw [← hall] at hR3
  obtain ⟨M, hMd⟩ : ∃ M, M = maxL P := ⟨_, rfl⟩
  rw [← hMd] at hR3 hln hms hfr
  have HC := Lib.hid (And.intro hfr hms); clear hL hall hfr hms hMd
  obtain ⟨ra, rc, hrv, _, _⟩ := Sl.shape hR3
  subst hrv
  have hW2 := Rows2.ext hW hg2
  have hg02 := grown_trans hg1 hg2
  go_wp2
  go_loopw [3, 5] (fun ov iv wr => ∃ (i : Nat) (v3 : Value), v3 = ov ∧ iv = .int .i64 i ∧ i ≤ M.length ∧ Ext w2 wr ∧ Rows2 Any wr v3 (cseq P (frTo P M i))) (fun _ iv _ => M.length - (intOf iv).toNat)
  case atStart => exact ⟨0, _, rfl, rfl, by omega, Ext.refl _, hW2⟩
  case round =>
    clear hW hW2
    obtain ⟨i, v3, rfl, rfl, hi, hg, hO⟩ := hrel
    have Sf := G.frTo_sub HC.out.2 i hi
    have hlf := G.cseq_len Sf
    obtain ⟨fa, fc, hvf, _, _⟩ := Sl.shape hO
    subst hvf
    by_cases hlt : i < M.length
    · have hlt' : (i : Int) < M.length := by omega
      obtain ⟨bl, ol, a2, cap2, hal, _, hbl, hcl, hru⟩ := Rows3.at hR3 i hlt
      subst hal
      have hb := HC.out.2 _ (gt_mem hlt)
      have hru2 := Rows2.ext hru hg
      rw [hb.2] at hru2
      have hgr := grown_trans hg02 hg
      have e1 : ∀ w', Ext wr w' → w'.cell? ⟨w.heap.size, 0, none⟩ = some vo6 := fun w' h => (HB.out w' (grown_trans hgr h)).1
      have e2 : ∀ w', Ext wr w' → w'.cell? ⟨w.heap.size, 1, none⟩ = some vp6 := fun w' h => (HB.out w' (grown_trans hgr h)).2.1
      have e3 : ∀ w', Ext wr w' → w'.cell? ⟨w.heap.size, 2, none⟩ = some vc6 := fun w' h => (HB.out w' (grown_trans hgr h)).2.2
      have e4 : ∀ w', Ext wr w' → w'.cell? ⟨bl, ol + i, none⟩ = some (.slice a2 (gt M i).length cap2) := fun w' h => (grown_trans hg h).cell hcl (by simp)
      have hlb : (gt M i).length = (cseq P (genP P (fun z => z ∈ gt M i))).length := congrArg List.length hb.2
      rw [hlb] at e4
      rw [← hb.2] at hru2
      rw [hb.2] at hru2
      have HS := Lib.hid (And.intro hb Sf); clear hb Sf hcl hlb
      go_wp2
      go_region_held3 (fun w' => Ext wr w') (first | exact grown_drew _ _ | exact Ext.refl _ | assumption)
        (first
          | (go_at_call 157; refine Calls.mono (Calls.rel (w0 := wr) (by assumption) (l13Meet_ok P G _ _ _ _ (frTo P M i) (genP P (fun z => z ∈ gt M i)) Any Any _ HS.out.2 (G.subB HS.out.1) ⟨_, _, _, rfl, Pres3.ext h36 (grown_trans hgr (by assumption))⟩ (Rows2.ext hO (by assumption)) (Rows2.ext hru2 (by assumption)))) ?_; rintro e4 w4 ⟨v4, rfl, hg4, hs4, hO4⟩))
      clear e1 e2 e3 e4
      go_wp2
      go_roundw
      case rel => exact ⟨i + 1, v4, rfl, by go_num, by omega, grown_trans hg hg4, hO4⟩
      case measure => simp [intOf]; omega
    · have hie : i = M.length := by omega
      have hnl : ¬ (i : Int) < M.length := by omega
      rw [hie, ← HC.out.1] at hO
      rw [hie, ← HC.out.1] at *
      clear hie
      generalize (fratL P).length = nf at *
      go_wp2
      go_ret
      exact ⟨_, rfl, grown_trans hg0 (grown_trans hg02 hg), hO⟩

set_option maxRecDepth 100000 in
set_option maxHeartbeats 2000000 in
theorem sFrat_ok (P : Pr) (w : World) (pv : Value) (Sp : Nat → Prop) (hpv : PresV Sp w pv P) :
    Calls Tryz.prog 48 #[pv] w (Ret w fun w' v => ∃ a n c, v = .tuple #[.slice a n c, .int .i64 (latC P)] ∧ Rows2 Any w' (.slice a n c) (fratL P)) := by
  obtain ⟨vo, vp, vc, rfl, h3⟩ := hpv
  have hp0 := PresP.box h3 31
  have hg0 : Ext w (w.alloc (.cells #[vo, vp, vc] 31)) := World.grownBy_alloc _ _ _
  obtain ⟨vo6, vp6, vc6, _, _, hc0, hc1, hc2, h36⟩ := hp0.at
  simp only [Nat.zero_add] at hc1 hc2
  have hbx : ∀ w', Ext (w.alloc (.cells #[vo, vp, vc] 31)) w' → w'.cell? ⟨w.heap.size, 0, none⟩ = some vo6 ∧ w'.cell? ⟨w.heap.size, 1, none⟩ = some vp6 ∧ w'.cell? ⟨w.heap.size, 2, none⟩ = some vc6 := fun w' h => ⟨h.cell hc0 (by simp), h.cell hc1 (by simp), h.cell hc2 (by simp)⟩
  have HB := Lib.hid hbx; clear hbx hp0
  have hcd := l19Code_ok P _ (.agg #[vo6, vp6, vc6]) Any ⟨_, _, _, rfl, h36⟩
  go_enter Tryz.func48, Tryz.ntmps48
  go_wp2_with fail
  clear hc0 hc1 hc2
  generalize hw0 : w.alloc (.cells #[vo, vp, vc] 31) = w0 at *
  clear hw0
  refine Calls.mono hcd ?_
  rintro e1 w1 ⟨v1, rfl, hg1, rfl⟩
  clear hcd
  obtain ⟨c, hc⟩ : ∃ c, c = latC P := ⟨_, rfl⟩
  rw [← hc]
  have HC := Lib.hid hc
  by_cases hz : latC P = 0
  · have G := grp_of_r (latC_zero hz).1
    have hc0' : c = 0 := by rw [hc]; exact hz
    have HZ := Lib.hid hz; clear hc hz
    subst hc0'
    obtain ⟨hc0, hc1, hc2⟩ := HB.out w1 hg1
    go_wp2_with fail
    clear hc0 hc1 hc2
    refine Calls.mono (l19Frattini_ok P HZ.out G w1 _ Any ⟨_, _, _, rfl, Pres3.ext h36 hg1⟩) ?_
    rintro e2 w2 ⟨v2, rfl, hg2, hR⟩
    obtain ⟨ra, rc, hrv, _, _⟩ := Sl.shape hR
    subst hrv
    have HR := Lib.hid hR; clear hR
    go_wp2
    go_ret2
    exact ⟨_, rfl, grown_trans hg0 (grown_trans hg1 hg2), _, _, _, by rw [← HC.out]; rfl, HR.out⟩
  · have hall := fratL_no hz
    rw [← hc] at hz
    have hne : (c != 0) = true := by simpa using hz
    have HA := Lib.hid hall; clear hall hc
    go_wp2
    go_ret2
    exact ⟨_, rfl, grown_trans hg0 hg1, none, 0, 0, by rw [← HC.out]; rfl, by rw [HA.out]; exact ⟨none, 0, rfl, ⟨by simp, by simp, fun _ => rfl⟩, fun i hi => by simp at hi⟩⟩

end Go.Proofs.YtigbpdaomgagiaaGreat
