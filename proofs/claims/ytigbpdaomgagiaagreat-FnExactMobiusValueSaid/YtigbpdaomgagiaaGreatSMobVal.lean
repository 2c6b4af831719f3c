/-
  MobiusValue on both sides.
-/
import Derived.Test.YtigbpdaomgagiaaGreatSITup
import Derived.Test.YtigbpdaomgagiaaGreatSSTup
import Derived.Test.YtigbpdaomgagiaaGreatK9
import Derived.Test.YtigbpdaomgagiaaGreatK6

namespace Go.Proofs.YtigbpdaomgagiaaGreat
open Go.RowKit

open Classical in
/-- the first place of an entry -/
noncomputable def ixOf {α : Type} : List α → α → Nat
  | [], _ => 0
  | a :: l, u => if a = u then 0 else ixOf l u + 1
theorem ixOf_at {α : Type} [Inhabited α] {u : α} : ∀ {L : List α} {i : Nat}, i < L.length → gt L i = u → (∀ j, j < i → gt L j ≠ u) → ixOf L u = i
  | [], i, h, _, _ => by simp at h
  | a :: l, 0, _, h, _ => by
    have : a = u := by simpa [gt] using h
    unfold ixOf; rw [if_pos this]
  | a :: l, i + 1, h, he, hn => by
    have h0 : ¬ a = u := by
      have := hn 0 (by omega)
      simpa [gt] using this
    unfold ixOf; rw [if_neg h0]
    have := ixOf_at (L := l) (i := i) (u := u) (by simpa using h) (by simpa [gt] using he) (fun j hj => by
      have := hn (j + 1) (by omega)
      simpa [gt] using this)
    omega

def mvOk (P : Pr) (U : List (List Int)) : Prop := rconsB P = true ∧ SubB P U
open Classical in
noncomputable def mobC (P : Pr) (U : List (List Int)) : Int := if mvOk P U then latC P else 1
open Classical in
noncomputable def mobV (P : Pr) (U : List (List Int)) : Int := if mvOk P U ∧ latC P = 0 ∧ ∃ L, LatL P L then gt (wmob ((latL P).map (mskU P))) (ixOf (latL P) U) else 0
theorem mob_bad {P : Pr} {U : List (List Int)} (h : ¬ mvOk P U) : mobC P U = 1 ∧ mobV P U = 0 := by
  unfold mobC mobV; rw [if_neg h, if_neg (fun hh => h hh.1)]; exact ⟨rfl, rfl⟩
theorem mob_big {P : Pr} {U : List (List Int)} (h : mvOk P U) (hz : latC P ≠ 0) : mobC P U = latC P ∧ mobV P U = 0 := by
  unfold mobC mobV; rw [if_pos h, if_neg (fun hh => hz hh.2.1)]; exact ⟨rfl, rfl⟩
theorem mob_ok {P : Pr} {U : List (List Int)} {L : List (List (List Int))} (h : mvOk P U) (hz : latC P = 0) (hL : LatL P L) : mobC P U = 0 ∧ mobV P U = gt (wmob (L.map (mskU P))) (ixOf L U) := by
  unfold mobC mobV; rw [if_pos h, if_pos ⟨h, hz, L, hL⟩, latL_eq hL]; exact ⟨hz, rfl⟩

set_option maxRecDepth 100000 in
set_option maxHeartbeats 2000000 in
theorem mvClosure_ok (w : World) (vv uv : Value) (ub : Nat) (V U : List (List Int)) (Sv Su : Nat → Prop) (hv : Rows2 Sv w vv V) (hu : Rows2 Su w uv U) (hc : w.cell? ⟨ub, 0, none⟩ = some uv) :
    Calls Tryz.prog 96 #[vv, .pointer (some ⟨ub, 0, none⟩)] w (Ret w fun _ v => v = .bool (eqB U V)) := by
  obtain ⟨a1, c1, rfl, _, _⟩ := Sl.shape hv
  obtain ⟨a2, c2, rfl, _, _⟩ := Sl.shape hu
  go_enter Tryz.func96, Tryz.ntmps96
  go_wp2_with fail
  refine Calls.mono (sameRows_ok _ _ U V w _ _ hu hv) ?_
  rintro e1 w1 ⟨v1, rfl, hg1, rfl⟩
  go_wp2
  go_ret
  exact ⟨_, rfl, hg1, rfl⟩

set_option maxRecDepth 100000 in
set_option maxHeartbeats 2000000 in
theorem mvIndex_ok (L : List (List (List Int))) (U : List (List Int)) (hU : U ∈ L) (w : World) (lv uv : Value) (ub : Nat) (SS Su : Nat → Prop) (hl : Rows3 SS w lv L) (hu : Rows2 Su w uv U) (hc : w.cell? ⟨ub, 0, none⟩ = some uv) :
    Calls Tryz.prog 95 #[lv, .func (.func 96) #[] #[.pointer (some ⟨ub, 0, none⟩)]] w (Ret w fun _ v => v = .int .i64 (ixOf L U : Nat) ∧ ixOf L U < L.length) := by
  obtain ⟨la, lc, rfl, _, _⟩ := Sl.shape hl
  obtain ⟨m, hm, he⟩ := mem_gt hU
  have HM := Lib.hid (And.intro hm he); clear hm he hU
  go_enter Tryz.func95, Tryz.ntmps95
  go_wp2
  go_loopw [8] (fun v wr => ∃ k : Nat, v = .int .i64 k ∧ k ≤ L.length ∧ Ext w wr ∧ Hid (∀ j, j < k → gt L j ≠ U)) (fun v _ => L.length - (intOf v).toNat)
  case atStart => exact ⟨0, rfl, by omega, Ext.refl _, Lib.hid (fun j h => by omega)⟩
  case round =>
    obtain ⟨k, rfl, hk, hg, hN⟩ := hrel
    by_cases hlt : k < L.length
    · have hlt' : (k : Int) < L.length := by omega
      obtain ⟨bl, ol, a2, cap2, rfl, _, hbl, hcl, hru⟩ := Rows3.at hl k hlt
      have hcr := hg.cell hcl (by simp)
      have hcon := mvClosure_ok wr _ uv ub (gt L k) U SS Su (Rows2.ext hru hg) (Rows2.ext hu hg) (hg.cell hc (by simp))
      obtain ⟨r, hr⟩ : ∃ r, r = eqB U (gt L k) := ⟨_, rfl⟩
      rw [← hr] at hcon
      have HR := Lib.hid hr; clear hr hcl
      clear hc
      go_wp2_with fail
      refine Calls.mono hcon ?_
      rintro e1 w1 ⟨v1, rfl, hg1, rfl⟩
      clear hcon hcr
      cases r with
      | true =>
        have heq : gt L k = U := (eqB_true.1 HR.out.symm).symm
        have hix := ixOf_at hlt heq hN.out
        have HIX := Lib.hid hix; clear hix heq
        go_wp2
        go_ret
        exact ⟨_, rfl, grown_trans hg hg1, by rw [HIX.out]; exact ⟨rfl, hlt⟩⟩
      | false =>
        have hN2 : ∀ j, j < k + 1 → gt L j ≠ U := fun j hj => by
          rcases Nat.lt_succ_iff_lt_or_eq.1 hj with h | h
          · exact hN.out j h
          · intro e
            rw [← h, e] at HR
            have := HR.out
            rw [eqB_true.2 rfl] at this; cases this
        have HN2 := Lib.hid hN2; clear hN2
        go_wp2
        go_roundw
        case rel => exact ⟨k + 1, by go_num, by omega, grown_trans hg hg1, HN2⟩
        case measure => simp [intOf]; omega
    · exfalso
      exact hN.out m (by have := HM.out.1; omega) HM.out.2

set_option maxRecDepth 100000 in
set_option maxHeartbeats 4000000 in
theorem iMob_ok (P : Pr) (w : World) (pv uv : Value) (U : List (List Int)) (Sp Su : Nat → Prop) (hpv : PresV Sp w pv P) (hu : Rows2 Su w uv U) :
    Calls Tryz.prog 44 #[pv, uv] w (Ret w fun _ v => v = .tuple #[.int .i64 (mobV P U), .int .i64 (mobC P U)]) := by
  obtain ⟨vo, vp, vc, rfl, h3⟩ := hpv
  have hp0 := PresP.box h3 31
  have hg0 : Ext w (w.alloc (.cells #[vo, vp, vc] 31)) := World.grownBy_alloc _ _ _
  have hs0 : (w.alloc (.cells #[vo, vp, vc] 31)).heap.size = w.heap.size + 1 := by simp
  have hu0 := Rows2.ext hu hg0
  obtain ⟨au, capu, rfl, _, _⟩ := Sl.shape hu
  have hg1 : Ext (w.alloc (.cells #[vo, vp, vc] 31)) ((w.alloc (.cells #[vo, vp, vc] 31)).alloc (.cells #[.slice au U.length capu] 23)) := World.grownBy_alloc _ _ _
  have hx1 : ((w.alloc (.cells #[vo, vp, vc] 31)).alloc (.cells #[.slice au U.length capu] 23)).cell? ⟨w.heap.size + 1, 0, none⟩ = some (.slice au U.length capu) := by
    rw [← hs0, World.cell?_alloc_at _ _ _ _ rfl]; rfl
  have hu1 := Rows2.ext hu0 hg1
  have hp1 := hp0.ext hg1
  have hs1 : ((w.alloc (.cells #[vo, vp, vc] 31)).alloc (.cells #[.slice au U.length capu] 23)).heap.size = w.heap.size + 1 + 1 := by simp
  have hgw1 := grown_trans hg0 hg1
  go_enter Tryz.func44, Tryz.ntmps44
  go_wp2_with fail
  generalize hw1 : (w.alloc (.cells #[vo, vp, vc] 31)).alloc (.cells #[.slice au U.length capu] 23) = w1 at *
  clear hw1 hg0 hg1 hu0 hp0
  have hl := rows3One hu1
  rw [hs1] at hl
  have hg2 : Ext w1 (w1.alloc (.cells #[.slice au U.length capu] 23)) := World.grownBy_alloc _ _ _
  have hx2 := hg2.cell hx1 (by simp)
  have hu2 := Rows2.ext hu1 hg2
  have hp2 := hp1.ext hg2
  have hcon := areSubgroups_ok P _ _ _ [U] Any Any hp2 hl
  generalize hw2 : w1.alloc (.cells #[.slice au U.length capu] 23) = w2 at *
  clear hw2 hl
  refine Calls.mono hcon ?_
  rintro e3 w3 ⟨v3, rfl, hg3, r1, rfl, hr0⟩
  clear hcon hx1
  have hr1 : r1 = true ↔ mvOk P U := by rw [hr0]; unfold mvOk; simp
  clear hr0
  have hgw3 := grown_trans hgw1 (grown_trans hg2 hg3)
  cases r1 with
  | false =>
    obtain ⟨hc, hL⟩ := mob_bad (P := P) (U := U) (fun h => by have := hr1.2 h; cases this)
    have HC := Lib.hid (And.intro hc hL); clear hc hL hr1 hx2
    go_wp2
    go_ret2
    exact ⟨_, rfl, hgw3, by rw [HC.out.1, HC.out.2]; rfl⟩
  | true =>
    have hok := hr1.1 rfl
    have G := grp_of_r hok.1
    have hx3 := hg3.cell hx2 (by simp)
    have HOK := Lib.hid hok; clear hok hr1 hx2
    go_wp2_with fail
    have HX3 := Lib.hid hx3; clear hx3
    refine Calls.mono (latticeOf_ok P w3 _ Any (hp2.ext hg3)) ?_
    rintro e4 w4 ⟨v4, rfl, hg4, lp, rfl, hno, hyes⟩
    have hx4 := hg4.cell HX3.out (by simp)
    have hgw4 := grown_trans hgw3 hg4
    by_cases hz : latC P = 0
    · obtain ⟨lb, L, rfl, hL, hA⟩ := hyes hz
      obtain ⟨hlo, lv, mv, hX, hO, hM⟩ := hA
      have h32 := (latC_zero hz).2
      have hmob := mob_ok HOK.out hz hL
      have hlen := G.lat_len h32 hL
      have hne := (G.lat_top hL).1
      have hUL : U ∈ L := (hL.2 U).2 HOK.out.2
      have hM2 : OwnV w3.heap.size 101 w4 mv ((L.map (mskU P)).map uV) := by rw [List.map_map]; exact hM
      have hR3 := Rows3D.rows (hO.toD (by omega))
      obtain ⟨la, lc, hlv, _, _⟩ := SlD.shape (hO.toD (by omega))
      subst hlv
      have hmb := mobius_ok (L.map (mskU P)) L.length (by simp) (lat_masks h32) hlen hne w4 w3.heap.size lb _ mv la lc hX hM2
      have hu4 := Rows2.ext hu2 (grown_trans hg3 hg4)
      obtain ⟨c, hc⟩ : ∃ c, c = latC P := ⟨_, rfl⟩
      have hc0 : c = 0 := by rw [hc]; exact hz
      rw [← hc]
      have hwl : (wmob (L.map (mskU P))).length = L.length := by rw [wmob_len, List.length_map]
      have HC := Lib.hid (And.intro hmob (And.intro hL (And.intro hX (And.intro hUL hwl)))); clear hmob hL hO hM hM2 hno hyes hz hX hUL hc hwl
      subst hc0
      go_wp2_with fail
      refine Calls.mono hmb ?_
      rintro e5 w5 ⟨v5, rfl, hg5, hV⟩
      clear hmb
      obtain ⟨g, cg, hv5, _, _⟩ := hV.form (by rw [HC.out.2.2.2.2]; omega)
      rw [HC.out.2.2.2.2] at hv5
      subst hv5
      have hX5 := HC.out.2.2.1.ext hg5
      obtain ⟨hy0, hy1, hy2, hy3, hy4⟩ := id hX5
      clear hX5
      have hx5 := hg5.cell hx4 (by simp)
      go_wp2_with fail
      clear hy1 hy2 hy3 hy4
      refine Calls.mono (mvIndex_ok L U HC.out.2.2.2.1 w5 _ _ _ _ _ (Rows3.ext hR3 hg5) (Rows2.ext hu4 hg5) hx5) ?_
      rintro e6 w6 ⟨v6, rfl, hg6, rfl, hix⟩
      have hcv := (hV.ext0 hg6).cell (ixOf L U) (by rw [HC.out.2.2.2.2]; exact hix)
      have hval := HC.out.1
      obtain ⟨i, hi⟩ : ∃ i, i = ixOf L U := ⟨_, rfl⟩
      rw [← hi] at hix hcv hval ⊢
      obtain ⟨z, hzz⟩ : ∃ z, z = gt (wmob (L.map (mskU P))) i := ⟨_, rfl⟩
      rw [← hzz] at hcv hval
      have HV := Lib.hid hval; clear hval hzz hi
      have hix' : (i : Int) < L.length := by omega
      clear hx4 hx5
      go_wp2
      go_ret2
      exact ⟨_, rfl, grown_trans hgw4 (grown_trans hg5 hg6), by rw [HV.out.1, HV.out.2]; rfl⟩
    · have hlp := hno hz
      subst hlp
      have hbig := mob_big HOK.out hz
      obtain ⟨c, hc⟩ : ∃ c, c = latC P := ⟨_, rfl⟩
      rw [← hc] at hz hbig ⊢
      have hne : (c != 0) = true := by simpa using hz
      have HC := Lib.hid hbig; clear hc hbig hno hyes hx4
      go_wp2
      go_ret2
      exact ⟨_, rfl, hgw4, by rw [HC.out.1, HC.out.2]; rfl⟩

end Go.Proofs.YtigbpdaomgagiaaGreat
