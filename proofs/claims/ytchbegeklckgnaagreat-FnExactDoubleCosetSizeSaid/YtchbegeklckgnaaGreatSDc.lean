/-
  DoubleCosetSize on both sides.
-/
import Derived.Test.YtchbegeklckgnaaGreatSTwo
namespace Go.Proofs.YtchbegeklckgnaaGreat
open Go.RowKit

open Classical in
noncomputable def dcC (P : Pr) (U V : List (List Int)) (X : List Int) : Int := if twoOk P U V ∧ Vec P.orders X then 0 else 1
open Classical in
noncomputable def dcV (P : Pr) (U V : List (List Int)) (X : List Int) : Int := if twoOk P U V ∧ Vec P.orders X then prodSz P (genP P (fun z => z ∈ conjL P U X)) (gU P V) else 0

theorem dc_bad {P : Pr} {U V : List (List Int)} {X : List Int} (h : ¬ (twoOk P U V ∧ Vec P.orders X)) : dcC P U V X = 1 ∧ dcV P U V X = 0 := by
  unfold dcC dcV; rw [if_neg h, if_neg h]; exact ⟨rfl, rfl⟩
theorem dc_ok {P : Pr} {U V : List (List Int)} {X : List Int} (h : twoOk P U V ∧ Vec P.orders X) : dcC P U V X = 0 ∧ dcV P U V X = prodSz P (genP P (fun z => z ∈ conjL P U X)) (gU P V) := by
  unfold dcC dcV; rw [if_pos h, if_pos h]; exact ⟨rfl, rfl⟩

theorem Grp.conjL_vec {P : Pr} (G : Grp P) {U : List (List Int)} {X : List Int} (hU : ∀ x ∈ U, Vec P.orders x) (hX : Vec P.orders X) : ∀ z ∈ conjL P U X, Vec P.orders z := fun z hz => by
  unfold conjL at hz
  obtain ⟨y, hy, rfl⟩ := List.mem_map.1 hz
  exact G.conjV (hU y hy) hX

set_option maxRecDepth 100000 in
set_option maxHeartbeats 4000000 in
theorem iDc_ok (P : Pr) (w : World) (pv uv vv xv : Value) (U V : List (List Int)) (X : List Int) (Sp Su Sv Sx : Nat → Prop) (hpv : PresV Sp w pv P) (hu : Rows2 Su w uv U) (hv : Rows2 Sv w vv V) (hx : Ints Sx w xv X) :
    Calls Tryz.prog 36 #[pv, uv, vv, xv] w (Ret w fun _ v => v = .tuple #[.int .i64 (dcV P U V X), .int .i64 (dcC P U V X)]) := by
  obtain ⟨vo, vp, vc, rfl, h3⟩ := hpv
  have hp0 := PresP.box h3 32
  have hg0 : Ext w (w.alloc (.cells #[vo, vp, vc] 32)) := World.grownBy_alloc _ _ _
  have hs0 : (w.alloc (.cells #[vo, vp, vc] 32)).heap.size = w.heap.size + 1 := by simp
  have hu0 := Rows2.ext hu hg0
  have hv0 := Rows2.ext hv hg0
  have hx0 := hx.ext hg0
  obtain ⟨au, capu, rfl, _, _⟩ := Sl.shape hu
  obtain ⟨av, capv, rfl, _, _⟩ := Sl.shape hv
  obtain ⟨ax, capx, rfl, _, _⟩ := hx.shape
  have hg1 : Ext (w.alloc (.cells #[vo, vp, vc] 32)) ((w.alloc (.cells #[vo, vp, vc] 32)).alloc (.cells #[.slice au U.length capu, .slice av V.length capv] 23)) := World.grownBy_alloc _ _ _
  have hl := rows3Two hu0 hv0
  have hcon := areSubgroups_ok P _ _ _ [U, V] Any Any (hp0.ext hg1) hl
  rw [hs0] at hcon
  clear hl hu hv hx
  go_enter Tryz.func36, Tryz.ntmps36
  go_wp2_with fail
  refine Calls.mono hcon ?_
  rintro e1 w1 ⟨v1, rfl, hgA, r1, rfl, hr1⟩
  clear hcon
  have hr1 : r1 = true ↔ twoOk P U V := by rw [hr1]; unfold twoOk; simp
  have hg01 := grown_trans hg1 hgA
  have HS := Lib.hid hs0; clear hs0
  generalize hw0 : w.alloc (.cells #[vo, vp, vc] 32) = w0 at *
  clear hw0 hg1 hgA
  cases r1 with
  | false =>
    obtain ⟨hc, hL⟩ := dc_bad (P := P) (U := U) (V := V) (X := X) (fun h => by have := hr1.2 h.1; cases this)
    have HC := Lib.hid (And.intro hc hL); clear hc hL hr1
    go_wp2
    go_ret2
    exact ⟨_, rfl, grown_trans hg0 hg01, by rw [HC.out.1, HC.out.2]; rfl⟩
  | true =>
    have hok := hr1.1 rfl
    have G := grp_of_r hok.1
    have hn6 := G.v.n6
    have hul : U.length ≤ P.orders.length := G.sub_len hok.2.1
    have hex := isExponents_ok w1 _ _ P X Any Sx (hp0.ext hg01) (hx0.ext hg01) (fun i hi => by have := G.v.ord7 i hi; omega)
    cases hb : expB P.orders X with
    | false =>
      rw [hb] at hex
      obtain ⟨hc, hL⟩ := dc_bad (P := P) (U := U) (V := V) (X := X) (fun h => by have := expB_vec.2 h.2; rw [hb] at this; cases this)
      have HC := Lib.hid (And.intro hc hL); clear hc hL hr1 hok hb
      go_wp2_with fail
      refine Calls.mono hex ?_
      rintro e2 w2 ⟨rfl, rfl⟩
      clear hex
      go_wp2
      go_ret2
      exact ⟨_, rfl, grown_trans hg0 hg01, by rw [HC.out.1, HC.out.2]; rfl⟩
    | true =>
      rw [hb] at hex
      have hXV := expB_vec.1 hb
      obtain ⟨hc, hL⟩ := dc_ok ⟨hok, hXV⟩
      have hV := hok.2.2.2
      have hCV := G.conjL_vec hok.2.1.1 hXV
      have HC := Lib.hid (And.intro hc (And.intro hL (And.intro hok (And.intro hXV hCV)))); clear hc hL hr1 hok hb hXV hCV
      have hv1 : Rows2 Sv w1 (.slice av V.length capv) (cseq P (gU P V)) := by rw [← hV]; exact Rows2.ext hv0 hg01
      have HUV := Lib.hid hV; clear hV
      go_wp2_with fail
      refine Calls.mono hex ?_
      rintro e2 w2 ⟨rfl, rfl⟩
      clear hex
      go_wp2_with fail
      refine Calls.mono (conjugateSubgroup_ok P G w1 _ _ _ U X Any Su Sx (hp0.ext hg01) (Rows2.ext hu0 hg01) HC.out.2.2.1.2.1.1 (by omega) (hx0.ext hg01) HC.out.2.2.2.1) ?_
      rintro e3 w3 ⟨v3, rfl, hg3, hO3⟩
      have hcl : (cseq P (genP P (fun z => z ∈ conjL P U X))).length ≤ P.orders.length := G.cseq_len (G.genP_sub HC.out.2.2.2.2)
      have hR3 := RowsD.rows (SlO.toD hO3 (by omega))
      obtain ⟨aw, capw, hvw, _, _⟩ := Sl.shape hR3
      subst hvw
      have hg03 := grown_trans hg01 hg3
      go_wp2_with fail
      refine Calls.mono (productSize_ok P G w3 _ _ _ (genP P (fun z => z ∈ conjL P U X)) (gU P V) Any _ Sv (G.genP_sub HC.out.2.2.2.2) (G.subB HC.out.2.2.1.2.2) (hp0.ext hg03) hR3 (Rows2.ext hv1 hg3)) ?_
      rintro e4 w4 ⟨v4, rfl, hg4, rfl⟩
      go_wp2
      go_ret2
      exact ⟨_, rfl, grown_trans hg0 (grown_trans hg03 hg4), by rw [HC.out.1, HC.out.2.1]; rfl⟩

set_option maxRecDepth 100000 in
set_option maxHeartbeats 4000000 in
theorem sDc_ok (P : Pr) (w : World) (pv uv vv xv : Value) (U V : List (List Int)) (X : List Int) (Sp Su Sv Sx : Nat → Prop) (hpv : PresV Sp w pv P) (hu : Rows2 Su w uv U) (hv : Rows2 Sv w vv V) (hx : Ints Sx w xv X) :
    Calls Tryz.prog 34 #[pv, uv, vv, xv] w (Ret w fun _ v => v = .tuple #[.int .i64 (dcV P U V X), .int .i64 (dcC P U V X)]) := by
  obtain ⟨vo, vp, vc, rfl, h3⟩ := hpv
  have hp0 := PresP.box h3 32
  have hg0 : Ext w (w.alloc (.cells #[vo, vp, vc] 32)) := World.grownBy_alloc _ _ _
  have hu0 := Rows2.ext hu hg0
  have hv0 := Rows2.ext hv hg0
  have hx0 := hx.ext hg0
  obtain ⟨au, capu, rfl, _, _⟩ := Sl.shape hu
  obtain ⟨av, capv, rfl, _, _⟩ := Sl.shape hv
  obtain ⟨ax, capx, rfl, _, _⟩ := hx.shape
  obtain ⟨vo6, vp6, vc6, _, _, hc0, hc1, hc2, h36⟩ := hp0.at
  simp only [Nat.zero_add] at hc1 hc2
  have hbx : ∀ w', Ext (w.alloc (.cells #[vo, vp, vc] 32)) w' → w'.cell? ⟨w.heap.size, 0, none⟩ = some vo6 ∧ w'.cell? ⟨w.heap.size, 1, none⟩ = some vp6 ∧ w'.cell? ⟨w.heap.size, 2, none⟩ = some vc6 := fun w' h => ⟨h.cell hc0 (by simp), h.cell hc1 (by simp), h.cell hc2 (by simp)⟩
  have HB := Lib.hid hbx; clear hbx
  have hE := l13Two_ok P (w.alloc (.cells #[vo, vp, vc] 32)) _ _ _ U V Any Su Sv ⟨_, _, _, rfl, h36⟩ hu0 hv0
  clear hp0 hu hv hx
  go_enter Tryz.func34, Tryz.ntmps34
  go_wp2_with fail
  clear hc0 hc1 hc2
  generalize hw0 : w.alloc (.cells #[vo, vp, vc] 32) = w0 at *
  clear hw0
  refine Calls.mono hE ?_
  rintro e1 w1 ⟨v1, rfl, hg1, r1, rfl, hr1⟩
  clear hE
  obtain ⟨hb0, hb1, hb2⟩ := HB.out w1 hg1
  cases r1 with
  | false =>
    obtain ⟨hc, hL⟩ := dc_bad (P := P) (U := U) (V := V) (X := X) (fun h => by have := hr1.2 h.1; cases this)
    have HC := Lib.hid (And.intro hc hL); clear hc hL hr1
    go_wp2
    go_ret2
    exact ⟨_, rfl, grown_trans hg0 hg1, by rw [HC.out.1, HC.out.2]; rfl⟩
  | true =>
    have hok : twoOk P U V := hr1.1 rfl
    have G := grp_of_r hok.1
    have hn6 := G.v.n6
    have hul : U.length ≤ P.orders.length := G.sub_len hok.2.1
    have HOK := Lib.hid hok; clear hok hr1
    have hex := l10Element_ok P G.v w1 _ _ X Any Sx ⟨_, _, _, rfl, Pres3.ext h36 hg1⟩ (hx0.ext hg1)
    go_wp2_with fail
    clear hb0 hb1 hb2
    refine Calls.mono hex ?_
    rintro e2 w2 ⟨v2, rfl, hg2, hv2⟩
    clear hex
    have hg02 := grown_trans hg1 hg2
    cases hb : expB P.orders X with
    | false =>
      rw [hb] at hv2
      subst hv2
      obtain ⟨hc, hL⟩ := dc_bad (P := P) (U := U) (V := V) (X := X) (fun h => by have := expB_vec.2 h.2; rw [hb] at this; cases this)
      have HC := Lib.hid (And.intro hc hL); clear hc hL hb
      go_wp2
      go_ret2
      exact ⟨_, rfl, grown_trans hg0 hg02, by rw [HC.out.1, HC.out.2]; rfl⟩
    | true =>
      rw [hb] at hv2
      subst hv2
      have hXV := expB_vec.1 hb
      obtain ⟨hc, hL⟩ := dc_ok ⟨HOK.out, hXV⟩
      have hV := HOK.out.2.2.2
      have hCV := G.conjL_vec HOK.out.2.1.1 hXV
      have HC := Lib.hid (And.intro hc (And.intro hL (And.intro hXV hCV))); clear hc hL hb hXV hCV
      have hv2 : Rows2 Sv w2 (.slice av V.length capv) (cseq P (gU P V)) := by rw [← hV]; exact Rows2.ext hv0 hg02
      have HUV := Lib.hid hV; clear hV
      have f1 : ∀ w', Ext w2 w' → w'.cell? ⟨w.heap.size, 0, none⟩ = some vo6 := fun w' h => (HB.out w' (grown_trans hg02 h)).1
      have f2 : ∀ w', Ext w2 w' → w'.cell? ⟨w.heap.size, 1, none⟩ = some vp6 := fun w' h => (HB.out w' (grown_trans hg02 h)).2.1
      have f3 : ∀ w', Ext w2 w' → w'.cell? ⟨w.heap.size, 2, none⟩ = some vc6 := fun w' h => (HB.out w' (grown_trans hg02 h)).2.2
      go_wp2
      go_region_held3 (fun w' => Ext w2 w') (first | exact grown_drew _ _ | assumption)
        (first
          | (go_at_call 70; refine Calls.mono (Calls.rel (w0 := w2) (by assumption) (l13Conj_ok P G _ _ _ _ U X Any Any Any ⟨_, _, _, rfl, Pres3.ext h36 (grown_trans hg02 (by assumption))⟩ (Rows2.sub (Rows2.ext hu0 (grown_trans hg02 (by assumption))) (fun _ _ _ => trivial)) HOK.out.2.1.1 (by omega) (Ints.sub (Ints.ext hx0 (grown_trans hg02 (by assumption))) (fun _ _ _ => trivial)) HC.out.2.2.1)) ?_; rintro eC wC ⟨vC, rfl, hgC, hsC, hRC⟩; obtain ⟨aw, capw, hvw, _, _⟩ := Sl.shape hRC; subst hvw)
          | (go_at_call 67; refine Calls.mono (Calls.rel (w0 := w2) (by assumption) (l13Size_ok P G _ _ _ _ (genP P (fun z => z ∈ conjL P U X)) (gU P V) Any Any Any (G.genP_sub HC.out.2.2.2) (G.subB HOK.out.2.2) ⟨_, _, _, rfl, Pres3.ext h36 (grown_trans hg02 (by assumption))⟩ hRC (Rows2.sub (Rows2.ext hv2 (by assumption)) (fun _ _ _ => trivial)))) ?_; rintro eD wD ⟨vD, rfl, hgD, hsD, rfl⟩))
      clear f1 f2 f3
      go_wp2
      go_ret2
      exact ⟨_, rfl, grown_trans hg0 (grown_trans hg02 hgD), by rw [HC.out.1, HC.out.2.1]; rfl⟩

end Go.Proofs.YtchbegeklckgnaaGreat
