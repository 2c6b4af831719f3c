/-
  ProductSize, SubgroupMeet, DoubleCosetSize on both sides.
-/
import Derived.Test.YtchbegeklckgnaaGreatSSProd
namespace Go.Proofs.YtchbegeklckgnaaGreat
open Go.RowKit

/-- the subgroup of a list -/
abbrev gU (P : Pr) (U : List (List Int)) : List Int → Prop := genP P (fun x => x ∈ U)

def twoOk (P : Pr) (U V : List (List Int)) : Prop := rconsB P = true ∧ SubB P U ∧ SubB P V

open Classical in
noncomputable def twoC (P : Pr) (U V : List (List Int)) : Int := if twoOk P U V then 0 else 1
open Classical in
noncomputable def pszV (P : Pr) (U V : List (List Int)) : Int := if twoOk P U V then prodSz P (gU P U) (gU P V) else 0
open Classical in
noncomputable def meetL (P : Pr) (U V : List (List Int)) : List (List Int) := if twoOk P U V then cseq P (fun x => gU P U x ∧ gU P V x) else []

theorem two_bad {P : Pr} {U V : List (List Int)} (h : ¬ twoOk P U V) : twoC P U V = 1 ∧ pszV P U V = 0 ∧ meetL P U V = [] := by
  unfold twoC pszV meetL; rw [if_neg h, if_neg h, if_neg h]; exact ⟨rfl, rfl, rfl⟩
theorem two_ok {P : Pr} {U V : List (List Int)} (h : twoOk P U V) : twoC P U V = 0 ∧ pszV P U V = prodSz P (gU P U) (gU P V) ∧ meetL P U V = cseq P (fun x => gU P U x ∧ gU P V x) := by
  unfold twoC pszV meetL; rw [if_pos h, if_pos h, if_pos h]; exact ⟨rfl, rfl, rfl⟩

theorem meetL_len (P : Pr) (U V : List (List Int)) : (meetL P U V).length ≤ 729 := by
  by_cases h : twoOk P U V
  · have G := grp_of_r h.1
    rw [(two_ok h).2.2]
    have h1 : (cseq P (fun x => gU P U x ∧ gU P V x)).length ≤ P.orders.length := G.cseq_len ((G.subB h.2.1).and (G.subB h.2.2))
    have := G.v.n6
    omega
  · rw [(two_bad h).2.2]; simp
theorem meetL_tot (P : Pr) (U V : List (List Int)) : tot2 (meetL P U V) ≤ 1000000 := by
  have hl := meetL_len P U V
  have hb : ∀ x ∈ meetL P U V, x.length ≤ 6 := by
    intro x hx
    by_cases h : twoOk P U V
    · have G := grp_of_r h.1
      rw [(two_ok h).2.2] at hx
      have S := (G.subB h.2.1).and (G.subB h.2.2)
      rw [(S.vec x ((G.seq_facts S).2.1 x hx)).1]; exact G.v.n6
    · rw [(two_bad h).2.2] at hx; cases hx
  have := sz_bound List.length (meetL P U V) 6 hb _ (Nat.le_refl _)
  unfold tot2; omega

set_option maxRecDepth 100000 in
set_option maxHeartbeats 4000000 in
theorem iProdSz_ok (P : Pr) (w : World) (pv uv vv : Value) (U V : List (List Int)) (Sp Su Sv : Nat → Prop) (hpv : PresV Sp w pv P) (hu : Rows2 Su w uv U) (hv : Rows2 Sv w vv V) :
    Calls Tryz.prog 33 #[pv, uv, vv] w (Ret w fun _ v => v = .tuple #[.int .i64 (pszV P U V), .int .i64 (twoC P U V)]) := by
  obtain ⟨vo, vp, vc, rfl, h3⟩ := hpv
  have hp0 := PresP.box h3 32
  have hg0 : Ext w (w.alloc (.cells #[vo, vp, vc] 32)) := World.grownBy_alloc _ _ _
  have hs0 : (w.alloc (.cells #[vo, vp, vc] 32)).heap.size = w.heap.size + 1 := by simp
  have hu0 := Rows2.ext hu hg0
  have hv0 := Rows2.ext hv hg0
  obtain ⟨au, capu, rfl, _, _⟩ := Sl.shape hu
  obtain ⟨av, capv, rfl, _, _⟩ := Sl.shape hv
  have hg1 : Ext (w.alloc (.cells #[vo, vp, vc] 32)) ((w.alloc (.cells #[vo, vp, vc] 32)).alloc (.cells #[.slice au U.length capu, .slice av V.length capv] 23)) := World.grownBy_alloc _ _ _
  have hl := rows3Two hu0 hv0
  have hcon := areSubgroups_ok P _ _ _ [U, V] Any Any (hp0.ext hg1) hl
  rw [hs0] at hcon
  clear hl hu hv
  go_enter Tryz.func33, Tryz.ntmps33
  go_wp2_with fail
  refine Calls.mono hcon ?_
  rintro e1 w1 ⟨v1, rfl, hgA, r1, rfl, hr1⟩
  clear hcon
  have hr1 : r1 = true ↔ twoOk P U V := by rw [hr1]; unfold twoOk; simp
  have hg01 := grown_trans hg1 hgA
  have HS := Lib.hid hs0; clear hs0
  generalize hw0 : w.alloc (.cells #[vo, vp, vc] 32) = w0 at *
  clear hw0 hg1 hgA
  cases r1 with
  | false =>
    obtain ⟨hc, hL, _⟩ := two_bad (P := P) (U := U) (V := V) (fun h => by have := hr1.2 h; cases this)
    have HC := Lib.hid (And.intro hc hL); clear hc hL hr1
    go_wp2
    go_ret2
    exact ⟨_, rfl, grown_trans hg0 hg01, by rw [HC.out.1, HC.out.2]; rfl⟩
  | true =>
    have hok := hr1.1 rfl
    have G := grp_of_r hok.1
    obtain ⟨hc, hL, _⟩ := two_ok hok
    have hU := hok.2.1.2
    have hV := hok.2.2.2
    have HC := Lib.hid (And.intro hc (And.intro hL hok)); clear hc hL hr1 hok
    have hu1 : Rows2 Su w1 (.slice au U.length capu) (cseq P (gU P U)) := by rw [← hU]; exact Rows2.ext hu0 hg01
    have hv1 : Rows2 Sv w1 (.slice av V.length capv) (cseq P (gU P V)) := by rw [← hV]; exact Rows2.ext hv0 hg01
    have HUV := Lib.hid (And.intro hU hV); clear hU hV
    go_wp2_with fail
    refine Calls.mono (productSize_ok P G w1 _ _ _ (gU P U) (gU P V) Any Su Sv (G.subB HC.out.2.2.2.1) (G.subB HC.out.2.2.2.2) (hp0.ext hg01) hu1 hv1) ?_
    rintro e2 w2 ⟨v2, rfl, hg2, rfl⟩
    go_wp2
    go_ret2
    exact ⟨_, rfl, grown_trans hg0 (grown_trans hg01 hg2), by rw [HC.out.1, HC.out.2.1]; rfl⟩

set_option maxRecDepth 100000 in
set_option maxHeartbeats 4000000 in
theorem sProdSz_ok (P : Pr) (w : World) (pv uv vv : Value) (U V : List (List Int)) (Sp Su Sv : Nat → Prop) (hpv : PresV Sp w pv P) (hu : Rows2 Su w uv U) (hv : Rows2 Sv w vv V) :
    Calls Tryz.prog 32 #[pv, uv, vv] w (Ret w fun _ v => v = .tuple #[.int .i64 (pszV P U V), .int .i64 (twoC P U V)]) := by
  obtain ⟨vo, vp, vc, rfl, h3⟩ := hpv
  have hp0 := PresP.box h3 32
  have hg0 : Ext w (w.alloc (.cells #[vo, vp, vc] 32)) := World.grownBy_alloc _ _ _
  have hu0 := Rows2.ext hu hg0
  have hv0 := Rows2.ext hv hg0
  obtain ⟨au, capu, rfl, _, _⟩ := Sl.shape hu
  obtain ⟨av, capv, rfl, _, _⟩ := Sl.shape hv
  obtain ⟨vo6, vp6, vc6, _, _, hc0, hc1, hc2, h36⟩ := hp0.at
  simp only [Nat.zero_add] at hc1 hc2
  have hbx : ∀ w', Ext (w.alloc (.cells #[vo, vp, vc] 32)) w' → w'.cell? ⟨w.heap.size, 0, none⟩ = some vo6 ∧ w'.cell? ⟨w.heap.size, 1, none⟩ = some vp6 ∧ w'.cell? ⟨w.heap.size, 2, none⟩ = some vc6 := fun w' h => ⟨h.cell hc0 (by simp), h.cell hc1 (by simp), h.cell hc2 (by simp)⟩
  have HB := Lib.hid hbx; clear hbx
  have hE := l13Two_ok P (w.alloc (.cells #[vo, vp, vc] 32)) _ _ _ U V Any Su Sv ⟨_, _, _, rfl, h36⟩ hu0 hv0
  clear hp0 hu hv
  go_enter Tryz.func32, Tryz.ntmps32
  go_wp2_with fail
  clear hc0 hc1 hc2
  generalize hw0 : w.alloc (.cells #[vo, vp, vc] 32) = w0 at *
  clear hw0
  refine Calls.mono hE ?_
  rintro e1 w1 ⟨v1, rfl, hg1, r1, rfl, hr1⟩
  clear hE
  obtain ⟨hb0, hb1, hb2⟩ := HB.out w1 hg1
  cases r1 with
  | false =>
    obtain ⟨hc, hL, _⟩ := two_bad (P := P) (U := U) (V := V) (fun h => by have := hr1.2 h; cases this)
    have HC := Lib.hid (And.intro hc hL); clear hc hL hr1
    go_wp2
    go_ret2
    exact ⟨_, rfl, grown_trans hg0 hg1, by rw [HC.out.1, HC.out.2]; rfl⟩
  | true =>
    have hok : twoOk P U V := hr1.1 rfl
    have G := grp_of_r hok.1
    obtain ⟨hc, hL, _⟩ := two_ok hok
    have hU := hok.2.1.2
    have hV := hok.2.2.2
    have HC := Lib.hid (And.intro hc (And.intro hL hok)); clear hc hL hr1 hok
    have hu1 : Rows2 Su w1 (.slice au U.length capu) (cseq P (gU P U)) := by rw [← hU]; exact Rows2.ext hu0 hg1
    have hv1 : Rows2 Sv w1 (.slice av V.length capv) (cseq P (gU P V)) := by rw [← hV]; exact Rows2.ext hv0 hg1
    have HUV := Lib.hid (And.intro hU hV); clear hU hV
    go_wp2_with fail
    clear hb0 hb1 hb2
    refine Calls.mono (l13Size_ok P G w1 _ _ _ (gU P U) (gU P V) Any Su Sv (G.subB HC.out.2.2.2.1) (G.subB HC.out.2.2.2.2) ⟨_, _, _, rfl, Pres3.ext h36 hg1⟩ hu1 hv1) ?_
    rintro e2 w2 ⟨v2, rfl, hg2, rfl⟩
    go_wp2
    go_ret2
    exact ⟨_, rfl, grown_trans hg0 (grown_trans hg1 hg2), by rw [HC.out.1, HC.out.2.1]; rfl⟩

set_option maxRecDepth 100000 in
set_option maxHeartbeats 4000000 in
theorem iMeet_ok (P : Pr) (w : World) (pv uv vv : Value) (U V : List (List Int)) (Sp Su Sv : Nat → Prop) (hpv : PresV Sp w pv P) (hu : Rows2 Su w uv U) (hv : Rows2 Sv w vv V) :
    Calls Tryz.prog 41 #[pv, uv, vv] w (Ret w fun w' v => ∃ a n c, v = .tuple #[.slice a n c, .int .i64 (twoC P U V)] ∧ RowsO w.heap.size w' (.slice a n c) (meetL P U V)) := by
  obtain ⟨vo, vp, vc, rfl, h3⟩ := hpv
  have hp0 := PresP.box h3 32
  have hg0 : Ext w (w.alloc (.cells #[vo, vp, vc] 32)) := World.grownBy_alloc _ _ _
  have hs0 : (w.alloc (.cells #[vo, vp, vc] 32)).heap.size = w.heap.size + 1 := by simp
  have hu0 := Rows2.ext hu hg0
  have hv0 := Rows2.ext hv hg0
  obtain ⟨au, capu, rfl, _, _⟩ := Sl.shape hu
  obtain ⟨av, capv, rfl, _, _⟩ := Sl.shape hv
  have hg1 : Ext (w.alloc (.cells #[vo, vp, vc] 32)) ((w.alloc (.cells #[vo, vp, vc] 32)).alloc (.cells #[.slice au U.length capu, .slice av V.length capv] 23)) := World.grownBy_alloc _ _ _
  have hl := rows3Two hu0 hv0
  have hcon := areSubgroups_ok P _ _ _ [U, V] Any Any (hp0.ext hg1) hl
  rw [hs0] at hcon
  clear hl hu hv
  go_enter Tryz.func41, Tryz.ntmps41
  go_wp2_with fail
  refine Calls.mono hcon ?_
  rintro e1 w1 ⟨v1, rfl, hgA, r1, rfl, hr1⟩
  clear hcon
  have hr1 : r1 = true ↔ twoOk P U V := by rw [hr1]; unfold twoOk; simp
  have hg01 := grown_trans hg1 hgA
  have HS := Lib.hid hs0; clear hs0
  generalize hw0 : w.alloc (.cells #[vo, vp, vc] 32) = w0 at *
  clear hw0 hg1 hgA
  cases r1 with
  | false =>
    obtain ⟨hc, _, hL⟩ := two_bad (P := P) (U := U) (V := V) (fun h => by have := hr1.2 h; cases this)
    have HC := Lib.hid (And.intro hc hL); clear hc hL hr1
    go_wp2
    go_ret2
    exact ⟨_, rfl, grown_trans hg0 hg01, none, 0, 0, by rw [HC.out.1]; rfl, by rw [HC.out.2]; exact SlO.nil _ _ _ _⟩
  | true =>
    have hok := hr1.1 rfl
    have G := grp_of_r hok.1
    have hn6 := G.v.n6
    obtain ⟨hc, _, hL⟩ := two_ok hok
    have hU := hok.2.1.2
    have hV := hok.2.2.2
    have hml := meetL_len P U V
    have HC := Lib.hid (And.intro hc (And.intro hL hok)); clear hc hL hr1 hok
    have hu1 : Rows2 Su w1 (.slice au U.length capu) (cseq P (gU P U)) := by rw [← hU]; exact Rows2.ext hu0 hg01
    have hv1 : Rows2 Sv w1 (.slice av V.length capv) (cseq P (gU P V)) := by rw [← hV]; exact Rows2.ext hv0 hg01
    have HUV := Lib.hid (And.intro hU hV); clear hU hV
    go_wp2_with fail
    refine Calls.mono (meet_ok P G w1 _ _ _ (gU P U) (gU P V) Any Su Sv (G.subB HC.out.2.2.2.1) (G.subB HC.out.2.2.2.2) (hp0.ext hg01) hu1 hv1) ?_
    rintro e2 w2 ⟨v2, rfl, hg2, hO⟩
    rw [← HC.out.2.1] at hO
    obtain ⟨az, capz, hvz, _, _⟩ := SlD.shape (hO.toD (by omega))
    subst hvz
    have hs1 := hg01.size
    go_wp2
    go_ret2
    exact ⟨_, rfl, grown_trans hg0 (grown_trans hg01 hg2), _, _, _, by rw [HC.out.1]; rfl, hO.weak (by have := HS.out; omega)⟩

set_option maxRecDepth 100000 in
set_option maxHeartbeats 4000000 in
theorem sMeet_ok (P : Pr) (w : World) (pv uv vv : Value) (U V : List (List Int)) (Sp Su Sv : Nat → Prop) (hpv : PresV Sp w pv P) (hu : Rows2 Su w uv U) (hv : Rows2 Sv w vv V) :
    Calls Tryz.prog 40 #[pv, uv, vv] w (Ret w fun w' v => ∃ a n c, v = .tuple #[.slice a n c, .int .i64 (twoC P U V)] ∧ Rows2 Any w' (.slice a n c) (meetL P U V)) := by
  obtain ⟨vo, vp, vc, rfl, h3⟩ := hpv
  have hp0 := PresP.box h3 32
  have hg0 : Ext w (w.alloc (.cells #[vo, vp, vc] 32)) := World.grownBy_alloc _ _ _
  have hu0 := Rows2.ext hu hg0
  have hv0 := Rows2.ext hv hg0
  obtain ⟨au, capu, rfl, _, _⟩ := Sl.shape hu
  obtain ⟨av, capv, rfl, _, _⟩ := Sl.shape hv
  obtain ⟨vo6, vp6, vc6, _, _, hc0, hc1, hc2, h36⟩ := hp0.at
  simp only [Nat.zero_add] at hc1 hc2
  have hbx : ∀ w', Ext (w.alloc (.cells #[vo, vp, vc] 32)) w' → w'.cell? ⟨w.heap.size, 0, none⟩ = some vo6 ∧ w'.cell? ⟨w.heap.size, 1, none⟩ = some vp6 ∧ w'.cell? ⟨w.heap.size, 2, none⟩ = some vc6 := fun w' h => ⟨h.cell hc0 (by simp), h.cell hc1 (by simp), h.cell hc2 (by simp)⟩
  have HB := Lib.hid hbx; clear hbx
  have hE := l13Two_ok P (w.alloc (.cells #[vo, vp, vc] 32)) _ _ _ U V Any Su Sv ⟨_, _, _, rfl, h36⟩ hu0 hv0
  clear hp0 hu hv
  go_enter Tryz.func40, Tryz.ntmps40
  go_wp2_with fail
  clear hc0 hc1 hc2
  generalize hw0 : w.alloc (.cells #[vo, vp, vc] 32) = w0 at *
  clear hw0
  refine Calls.mono hE ?_
  rintro e1 w1 ⟨v1, rfl, hg1, r1, rfl, hr1⟩
  clear hE
  obtain ⟨hb0, hb1, hb2⟩ := HB.out w1 hg1
  cases r1 with
  | false =>
    obtain ⟨hc, _, hL⟩ := two_bad (P := P) (U := U) (V := V) (fun h => by have := hr1.2 h; cases this)
    have HC := Lib.hid (And.intro hc hL); clear hc hL hr1
    go_wp2
    go_ret2
    exact ⟨_, rfl, grown_trans hg0 hg1, none, 0, 0, by rw [HC.out.1]; rfl, by rw [HC.out.2]; exact ⟨none, 0, rfl, ⟨by simp, by simp, fun _ => rfl⟩, fun i hi => by simp at hi⟩⟩
  | true =>
    have hok : twoOk P U V := hr1.1 rfl
    have G := grp_of_r hok.1
    obtain ⟨hc, _, hL⟩ := two_ok hok
    have hU := hok.2.1.2
    have hV := hok.2.2.2
    have HC := Lib.hid (And.intro hc (And.intro hL hok)); clear hc hL hr1 hok
    have hu1 : Rows2 Su w1 (.slice au U.length capu) (cseq P (gU P U)) := by rw [← hU]; exact Rows2.ext hu0 hg1
    have hv1 : Rows2 Sv w1 (.slice av V.length capv) (cseq P (gU P V)) := by rw [← hV]; exact Rows2.ext hv0 hg1
    have HUV := Lib.hid (And.intro hU hV); clear hU hV
    go_wp2_with fail
    clear hb0 hb1 hb2
    refine Calls.mono (l13Meet_ok P G w1 _ _ _ (gU P U) (gU P V) Any Su Sv (G.subB HC.out.2.2.2.1) (G.subB HC.out.2.2.2.2) ⟨_, _, _, rfl, Pres3.ext h36 hg1⟩ hu1 hv1) ?_
    rintro e2 w2 ⟨v2, rfl, hg2, hR⟩
    rw [← HC.out.2.1] at hR
    obtain ⟨az, capz, hvz, _, _⟩ := Sl.shape hR
    subst hvz
    go_wp2
    go_ret2
    exact ⟨_, rfl, grown_trans hg0 (grown_trans hg1 hg2), _, _, _, by rw [HC.out.1]; rfl, hR⟩

end Go.Proofs.YtchbegeklckgnaaGreat
