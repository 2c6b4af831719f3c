/-
  impl.GeneratingTuples, impl.GeneratorRank.
-/
import Derived.Test.YtigbpdaomgagiaaGreatSIMob2
namespace Go.Proofs.YtigbpdaomgagiaaGreat
open Go.RowKit

theorem gensFit_ok (k : Int) (w : World) : Calls Tryz.prog 80 #[.int .i64 k] w fun e w' => e = .returned (.bool (inB k 0 6)) ∧ w = w' := by
  go_enter Tryz.func80, Tryz.ntmps80
  go_wp2_with fail
  refine Calls.mono (inside_ok k 0 6 w) ?_
  rintro e1 w1 ⟨rfl, rfl⟩
  go_wp2
  go_ret
  exact ⟨rfl, rfl⟩

theorem inB_6 {k : Int} (h : inB k 0 6 = true) : ∃ n : Nat, k = (n : Int) ∧ n ≤ 6 := by
  have : 0 ≤ k ∧ k ≤ 6 := by simpa [inB] using h
  exact ⟨k.toNat, by omega, by omega⟩

set_option maxRecDepth 100000 in
set_option maxHeartbeats 2000000 in
theorem iTup_ok (P : Pr) (w : World) (pv : Value) (k : Int) (Sp : Nat → Prop) (hpv : PresV Sp w pv P) :
    Calls Tryz.prog 24 #[pv, .int .i64 k] w (Ret w fun _ v => v = .tuple #[.int .i64 (tupV P k), .int .i64 (tupC P k)]) := by
  obtain ⟨vo, vp, vc, rfl, h3⟩ := hpv
  have hp0 := PresP.box h3 31
  have hg0 : Ext w (w.alloc (.cells #[vo, vp, vc] 31)) := World.grownBy_alloc _ _ _
  have hlat := latticeOf_ok P _ _ Any hp0
  go_enter Tryz.func24, Tryz.ntmps24
  go_wp2_with fail
  generalize hw0 : w.alloc (.cells #[vo, vp, vc] 31) = w0 at *
  clear hw0
  refine Calls.mono hlat ?_
  rintro e1 w1 ⟨v1, rfl, hg1, lp, rfl, hno, hyes⟩
  clear hlat
  have hgw1 := grown_trans hg0 hg1
  by_cases hz : latC P = 0
  · obtain ⟨lb, L, rfl, hL, hA⟩ := hyes hz
    obtain ⟨hlo, lv, mv, hX, hO, hM⟩ := hA
    have G := grp_of_r (latC_zero hz).1
    have h32 := (latC_zero hz).2
    have hM2 : OwnV w0.heap.size 101 w1 mv ((L.map (mskU P)).map uV) := by rw [List.map_map]; exact hM
    have hC : tupC P k = if inB k 0 6 = true then 0 else 2 := by unfold tupC; rw [if_pos hz]
    obtain ⟨c, hc⟩ : ∃ c, c = latC P := ⟨_, rfl⟩
    have hc0 : c = 0 := by rw [hc]; exact hz
    rw [← hc]
    have HZ := Lib.hid (And.intro hz (And.intro hL (And.intro hX (And.intro hO (And.intro hM2 hC))))); clear hc hz hL hX hO hM hM2 hno hyes hC
    subst hc0
    cases hin : inB k 0 6 with
    | false =>
      have hV := tupV_no2 (P := P) hin
      have hCC := HZ.out.2.2.2.2.2
      rw [hin] at hCC
      have HV := Lib.hid (And.intro hV hCC); clear hV hCC
      go_wp2_with fail
      refine Calls.mono (gensFit_ok k w1) ?_
      rintro e2 w2 ⟨rfl, rfl⟩
      rw [hin]
      clear hin
      go_wp2
      go_ret2
      exact ⟨_, rfl, hgw1, by rw [HV.out.1, HV.out.2]; rfl⟩
    | true =>
      have hV := tupV_ok HZ.out.1 hin HZ.out.2.1
      have hCC := HZ.out.2.2.2.2.2
      rw [hin] at hCC
      obtain ⟨n, hkn, hn6⟩ := inB_6 hin
      have htp := tuples_ok P G L HZ.out.2.1 h32 n hn6 w1 w0.heap.size lb _ lv mv Any (hp0.ext hg1) HZ.out.2.2.1 HZ.out.2.2.2.2.1 HZ.out.2.2.2.1
      rw [hkn] at hin hV hCC ⊢
      rw [Int.toNat_natCast] at hV
      have HV := Lib.hid (And.intro hV hCC); clear hV hCC
      go_wp2_with fail
      refine Calls.mono (gensFit_ok (n : Int) w1) ?_
      rintro e2 w2 ⟨rfl, rfl⟩
      rw [hin]
      clear hin
      go_wp2_with fail
      refine Calls.mono htp ?_
      rintro e3 w3 ⟨v3, rfl, hg3, rfl⟩
      clear htp
      generalize hz2 : tW P L n L.length = z at *
      have HZ2 := Lib.hid hz2; clear hz2
      go_wp2
      go_ret2
      exact ⟨_, rfl, grown_trans hgw1 hg3, by rw [hkn, HV.out.1, HV.out.2]; rfl⟩
  · have hlp := hno hz
    subst hlp
    have hV := tupV_no (P := P) (k := k) hz
    have hC : tupC P k = latC P := by unfold tupC; rw [if_neg hz]
    obtain ⟨c, hc⟩ : ∃ c, c = latC P := ⟨_, rfl⟩
    rw [← hc] at hz hC ⊢
    have hne : (c != 0) = true := by simpa using hz
    have HC := Lib.hid (And.intro hV hC); clear hc hV hC hno hyes
    go_wp2
    go_ret2
    exact ⟨_, rfl, hgw1, by rw [HC.out.1, HC.out.2]; rfl⟩

set_option maxRecDepth 100000 in
set_option maxHeartbeats 2000000 in
theorem iRank_ok (P : Pr) (w : World) (pv : Value) (Sp : Nat → Prop) (hpv : PresV Sp w pv P) :
    Calls Tryz.prog 31 #[pv] w (Ret w fun _ v => v = .tuple #[.int .i64 (rkV P), .int .i64 (latC P)]) := by
  obtain ⟨vo, vp, vc, rfl, h3⟩ := hpv
  have hp0 := PresP.box h3 31
  have hg0 : Ext w (w.alloc (.cells #[vo, vp, vc] 31)) := World.grownBy_alloc _ _ _
  have hlat := latticeOf_ok P _ _ Any hp0
  go_enter Tryz.func31, Tryz.ntmps31
  go_wp2_with fail
  generalize hw0 : w.alloc (.cells #[vo, vp, vc] 31) = w0 at *
  clear hw0
  refine Calls.mono hlat ?_
  rintro e1 w1 ⟨v1, rfl, hg1, lp, rfl, hno, hyes⟩
  clear hlat
  have hgw1 := grown_trans hg0 hg1
  by_cases hz : latC P = 0
  · obtain ⟨lb, L, rfl, hL, hA⟩ := hyes hz
    obtain ⟨hlo, lv, mv, hX, hO, hM⟩ := hA
    have G := grp_of_r (latC_zero hz).1
    have h32 := (latC_zero hz).2
    have hn6 := G.v.n6
    have hM2 : OwnV w0.heap.size 101 w1 mv ((L.map (mskU P)).map uV) := by rw [List.map_map]; exact hM
    have hlt1 := hX.1
    have hend := G.tW_end h32 hL
    have htp := fun (n : Nat) (hn : n ≤ 6) (wr : World) (hg : Ext w1 wr) => tuples_ok P G L hL h32 n hn wr w0.heap.size lb _ lv mv Any ((hp0.ext hg1).ext hg) (hX.ext hg) (hM2.kept hg (by cases hv : mv.ownBlock <;> simp)) (hO.ext rdRows hg)
    obtain ⟨c, hc⟩ : ∃ c, c = latC P := ⟨_, rfl⟩
    have hc0 : c = 0 := by rw [hc]; exact hz
    rw [← hc]
    have HZ := Lib.hid (And.intro hz (And.intro hL (And.intro hend (And.intro htp hc)))); clear hc hz hL hX hO hM hM2 hno hyes hend htp
    subst hc0
    go_wp2
    go_loopw [6] (fun kv wr => ∃ k : Nat, kv = .int .i64 k ∧ k ≤ P.orders.length ∧ Ext w1 wr ∧ Hid (∀ j, j < k → tW P L j L.length = 0)) (fun kv _ => 7 - (intOf kv).toNat)
    case atStart => exact ⟨0, by go_num, by omega, Ext.refl _, Lib.hid (fun j hj => by omega)⟩
    case round =>
      obtain ⟨k, rfl, hk, hg, hJ⟩ := hrel
      have htk := HZ.out.2.2.2.1 k (by omega) wr hg
      obtain ⟨z, hz⟩ : ∃ z, z = tW P L k L.length := ⟨_, rfl⟩
      rw [← hz] at htk
      go_wp2_with fail
      refine Calls.mono htk ?_
      rintro e3 w3 ⟨v3, rfl, hg3, rfl⟩
      clear htk
      by_cases hz0 : z = 0
      · have hkn : k < P.orders.length := by
          refine Classical.byContradiction fun hn => ?_
          have : k = P.orders.length := by omega
          rw [this, hz0] at hz
          exact HZ.out.2.2.1 hz.symm
        have hJ2 : ∀ j, j < k + 1 → tW P L j L.length = 0 := fun j hj => by
          rcases Nat.lt_succ_iff_lt_or_eq.1 hj with h | h
          · exact hJ.out j h
          · rw [h, ← hz, hz0]
        have HJ2 := Lib.hid hJ2; clear hJ2 hz hJ
        subst hz0
        go_wp2
        go_roundw
        case rel => exact ⟨k + 1, by go_num, by omega, grown_trans hg hg3, HJ2⟩
        case measure => simp [intOf]; omega
      · have hV := rkV_ok HZ.out.1 HZ.out.2.1 (r := k) ⟨by rw [← hz]; exact hz0, hJ.out⟩
        have hne : (z == 0) = false := by simpa using hz0
        have HV := Lib.hid hV; clear hV hz hJ hz0
        go_wp2
        go_ret2
        exact ⟨_, rfl, grown_trans hgw1 (grown_trans hg hg3), by rw [HV.out, ← HZ.out.2.2.2.2]; rfl⟩
  · have hlp := hno hz
    subst hlp
    have hV := rkV_no (P := P) hz
    obtain ⟨c, hc⟩ : ∃ c, c = latC P := ⟨_, rfl⟩
    rw [← hc] at hz ⊢
    have hne : (c != 0) = true := by simpa using hz
    have HC := Lib.hid (And.intro hV hc); clear hc hV hno hyes
    go_wp2
    go_ret2
    exact ⟨_, rfl, hgw1, by rw [HC.out.1, ← HC.out.2]; rfl⟩

end Go.Proofs.YtigbpdaomgagiaaGreat
