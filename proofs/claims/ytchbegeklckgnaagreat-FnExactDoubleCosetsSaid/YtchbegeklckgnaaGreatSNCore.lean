/-
  NormalCore on both sides.
-/
import Derived.Test.YtchbegeklckgnaaGreatSSCore
import Derived.Test.YtchbegeklckgnaaGreatSTwo
import Derived.Test.YtchbegeklckgnaaGreatK7
namespace Go.Proofs.YtchbegeklckgnaaGreat
open Go.RowKit

def oneOk (P : Pr) (U : List (List Int)) : Prop := rconsB P = true ∧ SubB P U

open Classical in
noncomputable def ncC (P : Pr) (U : List (List Int)) : Int := if oneOk P U then 0 else 1
open Classical in
noncomputable def ncL (P : Pr) (U : List (List Int)) : List (List Int) := if oneOk P U then cseq P (coreP P (gU P U)) else []

theorem nc_bad {P : Pr} {U : List (List Int)} (h : ¬ oneOk P U) : ncC P U = 1 ∧ ncL P U = [] := by
  unfold ncC ncL; rw [if_neg h, if_neg h]; exact ⟨rfl, rfl⟩
theorem nc_ok {P : Pr} {U : List (List Int)} (h : oneOk P U) : ncC P U = 0 ∧ ncL P U = cseq P (coreP P (gU P U)) := by
  unfold ncC ncL; rw [if_pos h, if_pos h]; exact ⟨rfl, rfl⟩

theorem ncL_len (P : Pr) (U : List (List Int)) : (ncL P U).length ≤ 729 := by
  by_cases h : oneOk P U
  · have G := grp_of_r h.1
    rw [(nc_ok h).2]
    have h1 : (cseq P (coreP P (gU P U))).length ≤ P.orders.length := G.cseq_len (G.core_sub (G.subB h.2))
    have := G.v.n6
    omega
  · rw [(nc_bad h).2]; simp
theorem ncL_mem (P : Pr) (U : List (List Int)) : ∀ x ∈ ncL P U, x.length ≤ 6 := by
  intro x hx
  by_cases h : oneOk P U
  · have G := grp_of_r h.1
    rw [(nc_ok h).2] at hx
    have S := G.core_sub (G.subB h.2)
    rw [(S.vec x ((G.seq_facts S).2.1 x hx)).1]; exact G.v.n6
  · rw [(nc_bad h).2] at hx; cases hx
theorem ncL_tot (P : Pr) (U : List (List Int)) : tot2 (ncL P U) ≤ 1000000 := by
  have hl := ncL_len P U
  have := sz_bound List.length (ncL P U) 6 (ncL_mem P U) _ (Nat.le_refl _)
  unfold tot2; omega

set_option maxRecDepth 100000 in
set_option maxHeartbeats 4000000 in
theorem iNCore_ok (P : Pr) (w : World) (pv uv : Value) (U : List (List Int)) (Sp Su : Nat → Prop) (hpv : PresV Sp w pv P) (hu : Rows2 Su w uv U) :
    Calls Tryz.prog 47 #[pv, uv] w (Ret w fun w' v => ∃ a n c, v = .tuple #[.slice a n c, .int .i64 (ncC P U)] ∧ RowsO w.heap.size w' (.slice a n c) (ncL P U)) := by
  obtain ⟨vo, vp, vc, rfl, h3⟩ := hpv
  have hp0 := PresP.box h3 32
  have hg0 : Ext w (w.alloc (.cells #[vo, vp, vc] 32)) := World.grownBy_alloc _ _ _
  have hs0 : (w.alloc (.cells #[vo, vp, vc] 32)).heap.size = w.heap.size + 1 := by simp
  have hu0 := Rows2.ext hu hg0
  obtain ⟨au, capu, rfl, _, _⟩ := Sl.shape hu
  have hg1 : Ext (w.alloc (.cells #[vo, vp, vc] 32)) ((w.alloc (.cells #[vo, vp, vc] 32)).alloc (.cells #[.slice au U.length capu] 23)) := World.grownBy_alloc _ _ _
  have hl := rows3One hu0
  have hcon := areSubgroups_ok P _ _ _ [U] Any Any (hp0.ext hg1) hl
  rw [hs0] at hcon
  clear hl hu
  go_enter Tryz.func47, Tryz.ntmps47
  go_wp2_with fail
  refine Calls.mono hcon ?_
  rintro e1 w1 ⟨v1, rfl, hgA, r1, rfl, hr1⟩
  clear hcon
  have hr1 : r1 = true ↔ oneOk P U := by rw [hr1]; unfold oneOk; simp
  have hg01 := grown_trans hg1 hgA
  have HS := Lib.hid hs0; clear hs0
  generalize hw0 : w.alloc (.cells #[vo, vp, vc] 32) = w0 at *
  clear hw0 hg1 hgA
  cases r1 with
  | false =>
    obtain ⟨hc, hL⟩ := nc_bad (P := P) (U := U) (fun h => by have := hr1.2 h; cases this)
    have HC := Lib.hid (And.intro hc hL); clear hc hL hr1
    go_wp2
    go_ret2
    exact ⟨_, rfl, grown_trans hg0 hg01, none, 0, 0, by rw [HC.out.1]; rfl, by rw [HC.out.2]; exact SlO.nil _ _ _ _⟩
  | true =>
    have hok := hr1.1 rfl
    have G := grp_of_r hok.1
    obtain ⟨hc, hL⟩ := nc_ok hok
    have hU := hok.2.2
    have hml := ncL_len P U
    have HC := Lib.hid (And.intro hc (And.intro hL hok)); clear hc hL hr1 hok
    have hu1 : Rows2 Su w1 (.slice au U.length capu) (cseq P (gU P U)) := by rw [← hU]; exact Rows2.ext hu0 hg01
    have HUV := Lib.hid hU; clear hU
    go_wp2_with fail
    refine Calls.mono (core_ok P G w1 _ _ (gU P U) Any Su (G.subB HC.out.2.2.2) (hp0.ext hg01) hu1) ?_
    rintro e2 w2 ⟨v2, rfl, hg2, hO⟩
    rw [← HC.out.2.1] at hO
    obtain ⟨az, capz, hvz, _, _⟩ := SlD.shape (hO.toD (by omega))
    subst hvz
    have hs1 := hg01.size
    go_wp2
    go_ret2
    exact ⟨_, rfl, grown_trans hg0 (grown_trans hg01 hg2), _, _, _, by rw [HC.out.1]; rfl, hO.weak (by have := HS.out; omega)⟩

set_option maxRecDepth 100000 in
set_option maxHeartbeats 4000000 in
theorem sNCore_ok (P : Pr) (w : World) (pv uv : Value) (U : List (List Int)) (Sp Su : Nat → Prop) (hpv : PresV Sp w pv P) (hu : Rows2 Su w uv U) :
    Calls Tryz.prog 46 #[pv, uv] w (Ret w fun w' v => ∃ a n c, v = .tuple #[.slice a n c, .int .i64 (ncC P U)] ∧ Rows2 Any w' (.slice a n c) (ncL P U)) := by
  obtain ⟨vo, vp, vc, rfl, h3⟩ := hpv
  have hp0 := PresP.box h3 32
  have hg0 : Ext w (w.alloc (.cells #[vo, vp, vc] 32)) := World.grownBy_alloc _ _ _
  have hu0 := Rows2.ext hu hg0
  obtain ⟨au, capu, rfl, _, _⟩ := Sl.shape hu
  obtain ⟨vo6, vp6, vc6, _, _, hc0, hc1, hc2, h36⟩ := hp0.at
  simp only [Nat.zero_add] at hc1 hc2
  have hbx : ∀ w', Ext (w.alloc (.cells #[vo, vp, vc] 32)) w' → w'.cell? ⟨w.heap.size, 0, none⟩ = some vo6 ∧ w'.cell? ⟨w.heap.size, 1, none⟩ = some vp6 ∧ w'.cell? ⟨w.heap.size, 2, none⟩ = some vc6 := fun w' h => ⟨h.cell hc0 (by simp), h.cell hc1 (by simp), h.cell hc2 (by simp)⟩
  have HB := Lib.hid hbx; clear hbx
  have hE := sIsSubgroup_ok P (w.alloc (.cells #[vo, vp, vc] 32)) _ _ U Any Su ⟨_, _, _, rfl, h36⟩ hu0
  clear hp0 hu
  go_enter Tryz.func46, Tryz.ntmps46
  go_wp2_with fail
  clear hc0 hc1 hc2
  generalize hw0 : w.alloc (.cells #[vo, vp, vc] 32) = w0 at *
  clear hw0
  refine Calls.mono hE ?_
  rintro e1 w1 ⟨v1, rfl, hg1, r1, rfl, hr1⟩
  clear hE
  obtain ⟨hb0, hb1, hb2⟩ := HB.out w1 hg1
  cases r1 with
  | false =>
    obtain ⟨hc, hL⟩ := nc_bad (P := P) (U := U) (fun h => by have := hr1.2 h; cases this)
    have HC := Lib.hid (And.intro hc hL); clear hc hL hr1
    go_wp2
    go_ret2
    exact ⟨_, rfl, grown_trans hg0 hg1, none, 0, 0, by rw [HC.out.1]; rfl, by rw [HC.out.2]; exact ⟨none, 0, rfl, ⟨by simp, by simp, fun _ => rfl⟩, fun i hi => by simp at hi⟩⟩
  | true =>
    have hok : oneOk P U := hr1.1 rfl
    have G := grp_of_r hok.1
    obtain ⟨hc, hL⟩ := nc_ok hok
    have hU := hok.2.2
    have hlm : (cseq P (coreP P (gU P U))).length ≤ P.orders.length := G.cseq_len (G.core_sub (G.subB hok.2))
    have hn6 := G.v.n6
    have hmm := ncL_mem P U
    rw [hL] at hmm
    have HM := Lib.hid hmm; clear hmm
    have HC := Lib.hid (And.intro hc (And.intro hL hok)); clear hc hL hr1 hok
    have hu1 : Rows2 Su w1 (.slice au U.length capu) (cseq P (gU P U)) := by rw [← hU]; exact Rows2.ext hu0 hg1
    have HUV := Lib.hid hU; clear hU
    go_wp2_with fail
    clear hb0 hb1 hb2
    refine Calls.mono (l13Core_ok P G w1 _ _ (gU P U) Any Su (G.subB HC.out.2.2.2) ⟨_, _, _, rfl, Pres3.ext h36 hg1⟩ hu1) ?_
    rintro e2 w2 ⟨v2, rfl, hg2, hR⟩
    obtain ⟨ar, capr, hvr, _, _⟩ := Sl.shape hR
    subst hvr
    go_wp2_with fail
    refine Calls.mono (l01Own2_ok w2 _ _ Any hR (fun x hx => by have := HM.out x hx; omega) (by omega)) ?_
    rintro e3 w3 ⟨v3, rfl, hg3, hO⟩
    have hOD := RowsD.rows (hO.toD (by omega))
    rw [← HC.out.2.1] at hOD
    obtain ⟨az, capz, hvz, _, _⟩ := Sl.shape hOD
    subst hvz
    go_wp2
    go_ret2
    exact ⟨_, rfl, grown_trans hg0 (grown_trans hg1 (grown_trans hg2 hg3)), _, _, _, by rw [HC.out.1]; rfl, Rows2.sub hOD (fun _ _ _ => trivial)⟩

end Go.Proofs.YtchbegeklckgnaaGreat
