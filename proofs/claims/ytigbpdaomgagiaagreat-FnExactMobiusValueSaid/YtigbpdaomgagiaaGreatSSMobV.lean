/-
  The reference: MobiusValue.
-/
import Derived.Test.YtigbpdaomgagiaaGreatSMobVal
namespace Go.Proofs.YtigbpdaomgagiaaGreat
open Go.RowKit

set_option maxRecDepth 100000 in
set_option maxHeartbeats 4000000 in
theorem sMob_ok (P : Pr) (w : World) (pv uv : Value) (U : List (List Int)) (Sp Su : Nat → Prop) (hpv : PresV Sp w pv P) (hu : Rows2 Su w uv U) :
    Calls Tryz.prog 42 #[pv, uv] w (Ret w fun _ v => v = .tuple #[.int .i64 (mobV P U), .int .i64 (mobC P U)]) := by
  obtain ⟨vo, vp, vc, rfl, h3⟩ := hpv
  have hp0 := PresP.box h3 31
  have hg0 : Ext w (w.alloc (.cells #[vo, vp, vc] 31)) := World.grownBy_alloc _ _ _
  have hu0 := Rows2.ext hu hg0
  obtain ⟨au, capu, rfl, _, _⟩ := Sl.shape hu
  obtain ⟨vo6, vp6, vc6, _, _, hc0, hc1, hc2, h36⟩ := hp0.at
  simp only [Nat.zero_add] at hc1 hc2
  have hbx : ∀ w', Ext (w.alloc (.cells #[vo, vp, vc] 31)) w' → w'.cell? ⟨w.heap.size, 0, none⟩ = some vo6 ∧ w'.cell? ⟨w.heap.size, 1, none⟩ = some vp6 ∧ w'.cell? ⟨w.heap.size, 2, none⟩ = some vc6 := fun w' h => ⟨h.cell hc0 (by simp), h.cell hc1 (by simp), h.cell hc2 (by simp)⟩
  have HB := Lib.hid hbx; clear hbx
  have hE := sIsSubgroup_ok P (w.alloc (.cells #[vo, vp, vc] 31)) _ _ U Any Su ⟨_, _, _, rfl, h36⟩ hu0
  clear hp0 hu
  go_enter Tryz.func42, Tryz.ntmps42
  go_wp2_with fail
  clear hc0 hc1 hc2
  generalize hw0 : w.alloc (.cells #[vo, vp, vc] 31) = w0 at *
  clear hw0
  refine Calls.mono hE ?_
  rintro e1 w1 ⟨v1, rfl, hg1, r1, rfl, hr0⟩
  clear hE
  have hr1 : r1 = true ↔ mvOk P U := hr0
  clear hr0
  cases r1 with
  | false =>
    obtain ⟨hc, hL⟩ := mob_bad (P := P) (U := U) (fun h => by have := hr1.2 h; cases this)
    have HC := Lib.hid (And.intro hc hL); clear hc hL hr1
    go_wp2
    go_ret2
    exact ⟨_, rfl, grown_trans hg0 hg1, by rw [HC.out.1, HC.out.2]; rfl⟩
  | true =>
    have hok := hr1.1 rfl
    have G := grp_of_r hok.1
    have hP := G.v
    have hlc : latC P = if 32 < ordP P then 3 else 0 := by unfold latC; rw [if_pos hok.1]
    have HOK := Lib.hid (And.intro hok hlc); clear hok hr1 hlc
    obtain ⟨hc0, hc1, hc2⟩ := HB.out w1 hg1
    go_wp2_with fail
    clear hc0 hc1 hc2
    refine Calls.mono (l10Order_ok w1 _ P Any hP ⟨_, _, _, rfl, Pres3.ext h36 hg1⟩) ?_
    rintro e2 w2 ⟨v2, rfl, hg2, rfl⟩
    have hg02 := grown_trans hg1 hg2
    by_cases h32 : 32 < ordP P
    · have hz : latC P = 3 := by rw [HOK.out.2, if_pos h32]
      have hbig := mob_big HOK.out.1 (by rw [hz]; decide)
      rw [hz] at hbig
      have HC := Lib.hid hbig; clear hbig hz
      go_wp2
      go_ret2
      exact ⟨_, rfl, grown_trans hg0 hg02, by rw [HC.out.1, HC.out.2]; rfl⟩
    · have hz : latC P = 0 := by rw [HOK.out.2, if_neg h32]
      have h32' : ordP P ≤ 32 := by omega
      have HZ := Lib.hid hz; clear hz
      obtain ⟨hc0, hc1, hc2⟩ := HB.out w2 hg02
      go_wp2_with fail
      clear hc0 hc1 hc2
      refine Calls.mono (l19Full_ok P G w2 _ Any h32' ⟨_, _, _, rfl, Pres3.ext h36 hg02⟩) ?_
      rintro e3 w3 ⟨v3, rfl, hg3, sv, mv, rfl, L, hL, hR, hM⟩
      have hmob := mob_ok HOK.out.1 HZ.out hL
      have hlen := G.lat_len h32' hL
      have hne := (G.lat_top hL).1
      have hUL : U ∈ L := (hL.2 U).2 HOK.out.1.2
      have hm32 := lat_masks32 h32' (L := L)
      obtain ⟨ms, hmsd⟩ : ∃ ms, ms = L.map (mskU P) := ⟨_, rfl⟩
      have hml : ms.length = L.length := by rw [hmsd, List.length_map]
      rw [← hmsd] at hM hm32 hmob
      obtain ⟨sa, sc, hsv, _, _⟩ := Sl.shape hR
      subst hsv
      obtain ⟨am, cm, hmv, _, _⟩ := hM.shape
      rw [natI_len, hml] at hmv
      subst hmv
      have hg4 : Ext w3 (w3.alloc (.cells #[.slice sa L.length sc, .slice am L.length cm] 77)) := World.grownBy_alloc _ _ _
      have hb4 : ∀ w', Ext (w3.alloc (.cells #[.slice sa L.length sc, .slice am L.length cm] 77)) w' → w'.cell? ⟨w3.heap.size, 0, none⟩ = some (.slice sa L.length sc) ∧ w'.cell? ⟨w3.heap.size, 1, none⟩ = some (.slice am L.length cm) := fun w' h =>
        ⟨h.cell (by rw [World.cell?_alloc_at _ _ _ _ rfl]; rfl) (by simp), h.cell (by rw [World.cell?_alloc_at _ _ _ _ rfl]; rfl) (by simp)⟩
      have hR4 := Rows3.ext hR hg4
      have hM4 := Ints.ext hM hg4
      obtain ⟨hx0, hx1⟩ := hb4 _ (Ext.refl _)
      obtain ⟨m, hmL, hme⟩ := mem_gt hUL
      have HL := Lib.hid (And.intro hmob (And.intro hm32 (And.intro (And.intro hmL hme) hb4))); clear hL hmob hm32 hmsd hb4 hR hM hUL hmL hme
      go_wp2_with fail
      generalize hw4 : w3.alloc (.cells #[.slice sa L.length sc, .slice am L.length cm] 77) = w4 at *
      clear hw4 hx0 hx1
      have hg04 := grown_trans hg02 (grown_trans hg3 hg4)
      refine Calls.mono (l19Mobius_ok ms L.length hml HL.out.2.1 hlen hne w4 sa sc _ _ hM4) ?_
      rintro e5 w5 ⟨v5, rfl, hg5, hvB⟩
      have hwl : (wmob ms).length = L.length := by rw [wmob_len, hml]
      obtain ⟨g, cg, hv5, _, _⟩ := hvB.form (by rw [hwl]; omega)
      rw [hwl] at hv5
      subst hv5
      have HW := Lib.hid hwl; clear hwl
      have hg05 := grown_trans hg04 hg5
      have hu5 := Rows2.ext hu0 hg05
      go_wp2
      go_loopw [8] (fun kv wr => ∃ k : Nat, kv = .int .i64 k ∧ k ≤ L.length ∧ Ext w5 wr ∧ Hid (∀ j, j < k → gt L j ≠ U)) (fun kv _ => L.length - (intOf kv).toNat)
      case atStart => exact ⟨0, by go_num, by omega, Ext.refl _, Lib.hid (fun j hj => by omega)⟩
      case round =>
        obtain ⟨k, rfl, hk, hg, hN⟩ := hrel
        have hg0r := grown_trans hg05 hg
        have hg4r := grown_trans hg5 hg
        have hlt : k < L.length := by
          refine Classical.byContradiction fun hc => ?_
          exact hN.out m (by have := HL.out.2.2.1.1; omega) HL.out.2.2.1.2
        have hlt' : (k : Int) < L.length := by omega
        obtain ⟨bl, ol, a2, cap2, hal, _, hbl, hcl, hru⟩ := Rows3.at hR4 k hlt
        subst hal
        have hcr := hg4r.cell hcl (by simp)
        obtain ⟨hx0, hx1⟩ := HL.out.2.2.2 wr hg4r
        have hcon := l01Same2_ok _ _ (gt L k) U wr _ _ (Rows2.ext hru hg4r) (Rows2.ext hu5 hg)
        obtain ⟨r, hr⟩ : ∃ r, r = eqB (gt L k) U := ⟨_, rfl⟩
        rw [← hr] at hcon
        have HR := Lib.hid hr; clear hr hcl
        go_wp2_with fail
        refine Calls.mono hcon ?_
        rintro e6 w6 ⟨v6, rfl, hg6, rfl⟩
        clear hcon hcr hx0 hx1
        cases r with
        | true =>
          have heq : gt L k = U := eqB_true.1 HR.out.symm
          have hix := ixOf_at hlt heq hN.out
          have hval := HL.out.1
          rw [hix] at hval
          have hcv := (hvB.ext0 (grown_trans hg hg6)).cell k (by rw [HW.out]; exact hlt)
          obtain ⟨z, hzz⟩ : ∃ z, z = gt (wmob ms) k := ⟨_, rfl⟩
          rw [← hzz] at hcv hval
          have HV := Lib.hid hval; clear hval hzz hix heq
          go_wp2
          go_ret2
          exact ⟨_, rfl, grown_trans hg0 (grown_trans hg0r hg6), by rw [HV.out.1, HV.out.2]; rfl⟩
        | false =>
          have hN2 : ∀ j, j < k + 1 → gt L j ≠ U := fun j hj => by
            rcases Nat.lt_succ_iff_lt_or_eq.1 hj with h | h
            · exact hN.out j h
            · intro e
              rw [← h, e] at HR
              have := HR.out
              rw [eqB_true.2 rfl] at this; cases this
          have HN2 := Lib.hid hN2; clear hN2
          go_wp2
          go_roundw
          case rel => exact ⟨k + 1, by go_num, by omega, grown_trans hg hg6, HN2⟩
          case measure => simp [intOf]; omega

end Go.Proofs.YtigbpdaomgagiaaGreat
