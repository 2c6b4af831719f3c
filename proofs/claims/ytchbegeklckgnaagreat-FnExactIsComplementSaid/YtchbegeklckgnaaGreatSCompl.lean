/-
  IsComplement on both sides.
-/
import Derived.Test.YtchbegeklckgnaaGreatSCmpl
namespace Go.Proofs.YtchbegeklckgnaaGreat
open Go.RowKit

open Classical in
noncomputable def icC (P : Pr) (U V : List (List Int)) : Int := if twoOk P U V then (if NormG P (gU P U) (cseq P (gU P U)) then 0 else 5) else 1
open Classical in
noncomputable def icV (P : Pr) (U V : List (List Int)) : Bool := if twoOk P U V ∧ NormG P (gU P U) (cseq P (gU P U)) then cmplB P (gU P U) (gU P V) else false

theorem ic_bad {P : Pr} {U V : List (List Int)} (h : ¬ twoOk P U V) : icC P U V = 1 ∧ icV P U V = false := by
  unfold icC icV; rw [if_neg h, if_neg (fun e => h e.1)]; exact ⟨rfl, rfl⟩
theorem ic_not {P : Pr} {U V : List (List Int)} (h : twoOk P U V) (h2 : ¬ NormG P (gU P U) (cseq P (gU P U))) : icC P U V = 5 ∧ icV P U V = false := by
  unfold icC icV; rw [if_pos h, if_neg h2, if_neg (fun e => h2 e.2)]; exact ⟨rfl, rfl⟩
theorem ic_ok {P : Pr} {U V : List (List Int)} (h : twoOk P U V) (h2 : NormG P (gU P U) (cseq P (gU P U))) : icC P U V = 0 ∧ icV P U V = cmplB P (gU P U) (gU P V) := by
  unfold icC icV; rw [if_pos h, if_pos h2, if_pos ⟨h, h2⟩]; exact ⟨rfl, rfl⟩

set_option maxRecDepth 100000 in
set_option maxHeartbeats 4000000 in
theorem iCompl_ok (P : Pr) (w : World) (pv uv vv : Value) (U V : List (List Int)) (Sp Su Sv : Nat → Prop) (hpv : PresV Sp w pv P) (hu : Rows2 Su w uv U) (hv : Rows2 Sv w vv V) :
    Calls Tryz.prog 45 #[pv, uv, vv] w (Ret w fun _ v => v = .tuple #[.bool (icV P U V), .int .i64 (icC P U V)]) := by
  obtain ⟨vo, vp, vc, rfl, h3⟩ := hpv
  have hp0 := PresP.box h3 32
  have hg0 : Ext w (w.alloc (.cells #[vo, vp, vc] 32)) := World.grownBy_alloc _ _ _
  have hs0 : (w.alloc (.cells #[vo, vp, vc] 32)).heap.size = w.heap.size + 1 := by simp
  have hu0 := Rows2.ext hu hg0
  have hv0 := Rows2.ext hv hg0
  obtain ⟨au, capu, rfl, _, _⟩ := Sl.shape hu
  obtain ⟨av, capv, rfl, _, _⟩ := Sl.shape hv
  have hg1 : Ext (w.alloc (.cells #[vo, vp, vc] 32)) ((w.alloc (.cells #[vo, vp, vc] 32)).alloc (.cells #[.slice au U.length capu, .slice av V.length capv] 23)) := World.grownBy_alloc _ _ _
  have hl := rows3Two hu0 hv0
  have hcon := areSubgroups_ok P _ _ _ [U, V] Any Any (hp0.ext hg1) hl
  rw [hs0] at hcon
  clear hl hu hv
  go_enter Tryz.func45, Tryz.ntmps45
  go_wp2_with fail
  refine Calls.mono hcon ?_
  rintro e1 w1 ⟨v1, rfl, hgA, r1, rfl, hr1⟩
  clear hcon
  have hr1 : r1 = true ↔ twoOk P U V := by rw [hr1]; unfold twoOk; simp
  have hg01 := grown_trans hg1 hgA
  have HS := Lib.hid hs0; clear hs0
  generalize hw0 : w.alloc (.cells #[vo, vp, vc] 32) = w0 at *
  clear hw0 hg1 hgA
  cases r1 with
  | false =>
    obtain ⟨hc, hL⟩ := ic_bad (P := P) (U := U) (V := V) (fun h => by have := hr1.2 h; cases this)
    have HC := Lib.hid (And.intro hc hL); clear hc hL hr1
    go_wp2
    go_ret2
    exact ⟨_, rfl, grown_trans hg0 hg01, by rw [HC.out.1, HC.out.2]; rfl⟩
  | true =>
    have hok := hr1.1 rfl
    have G := grp_of_r hok.1
    have hU := hok.2.1.2
    have hV := hok.2.2.2
    have HOK := Lib.hid hok; clear hr1 hok
    have hu1 : Rows2 Su w1 (.slice au U.length capu) (cseq P (gU P U)) := by rw [← hU]; exact Rows2.ext hu0 hg01
    have hv1 : Rows2 Sv w1 (.slice av V.length capv) (cseq P (gU P V)) := by rw [← hV]; exact Rows2.ext hv0 hg01
    have HUV := Lib.hid (And.intro hU hV); clear hU hV hr1
    go_wp2_with fail
    refine Calls.mono (isNormal_ok P G w1 _ _ (gU P U) Any Su (G.subB HOK.out.2.1) (hp0.ext hg01) hu1) ?_
    rintro e2 w2 ⟨v2, rfl, hg2, r2, rfl, hr2⟩
    have hg02 := grown_trans hg01 hg2
    cases r2 with
    | false =>
      obtain ⟨hc, hL⟩ := ic_not HOK.out (fun h => by have := hr2.2 h; cases this)
      have HC := Lib.hid (And.intro hc hL); clear hc hL hr2
      go_wp2
      go_ret2
      exact ⟨_, rfl, grown_trans hg0 hg02, by rw [HC.out.1, HC.out.2]; rfl⟩
    | true =>
      obtain ⟨hc, hL⟩ := ic_ok HOK.out (hr2.1 rfl)
      have HC := Lib.hid (And.intro hc hL); clear hc hL hr2
      go_wp2_with fail
      refine Calls.mono (isComplement_ok P G w2 _ _ _ (gU P U) (gU P V) Any Su Sv (G.subB HOK.out.2.1) (G.subB HOK.out.2.2) (hp0.ext hg02) (Rows2.ext hu1 hg2) (Rows2.ext hv1 hg2)) ?_
      rintro e3 w3 ⟨v3, rfl, hg3, rfl⟩
      go_wp2
      go_ret2
      exact ⟨_, rfl, grown_trans hg0 (grown_trans hg02 hg3), by rw [HC.out.1, HC.out.2]; rfl⟩

set_option maxRecDepth 100000 in
set_option maxHeartbeats 4000000 in
theorem sCompl_ok (P : Pr) (w : World) (pv uv vv : Value) (U V : List (List Int)) (Sp Su Sv : Nat → Prop) (hpv : PresV Sp w pv P) (hu : Rows2 Su w uv U) (hv : Rows2 Sv w vv V) :
    Calls Tryz.prog 44 #[pv, uv, vv] w (Ret w fun _ v => v = .tuple #[.bool (icV P U V), .int .i64 (icC P U V)]) := by
  obtain ⟨vo, vp, vc, rfl, h3⟩ := hpv
  have hp0 := PresP.box h3 32
  have hg0 : Ext w (w.alloc (.cells #[vo, vp, vc] 32)) := World.grownBy_alloc _ _ _
  have hu0 := Rows2.ext hu hg0
  have hv0 := Rows2.ext hv hg0
  obtain ⟨au, capu, rfl, _, _⟩ := Sl.shape hu
  obtain ⟨av, capv, rfl, _, _⟩ := Sl.shape hv
  obtain ⟨vo6, vp6, vc6, _, _, hc0, hc1, hc2, h36⟩ := hp0.at
  simp only [Nat.zero_add] at hc1 hc2
  have hbx : ∀ w', Ext (w.alloc (.cells #[vo, vp, vc] 32)) w' → w'.cell? ⟨w.heap.size, 0, none⟩ = some vo6 ∧ w'.cell? ⟨w.heap.size, 1, none⟩ = some vp6 ∧ w'.cell? ⟨w.heap.size, 2, none⟩ = some vc6 := fun w' h => ⟨h.cell hc0 (by simp), h.cell hc1 (by simp), h.cell hc2 (by simp)⟩
  have HB := Lib.hid hbx; clear hbx
  have hE := l13Two_ok P (w.alloc (.cells #[vo, vp, vc] 32)) _ _ _ U V Any Su Sv ⟨_, _, _, rfl, h36⟩ hu0 hv0
  clear hp0 hu hv
  go_enter Tryz.func44, Tryz.ntmps44
  go_wp2_with fail
  clear hc0 hc1 hc2
  generalize hw0 : w.alloc (.cells #[vo, vp, vc] 32) = w0 at *
  clear hw0
  refine Calls.mono hE ?_
  rintro e1 w1 ⟨v1, rfl, hg1, r1, rfl, hr1⟩
  clear hE
  obtain ⟨hb0, hb1, hb2⟩ := HB.out w1 hg1
  cases r1 with
  | false =>
    obtain ⟨hc, hL⟩ := ic_bad (P := P) (U := U) (V := V) (fun h => by have := hr1.2 h; cases this)
    have HC := Lib.hid (And.intro hc hL); clear hc hL hr1
    go_wp2
    go_ret2
    exact ⟨_, rfl, grown_trans hg0 hg1, by rw [HC.out.1, HC.out.2]; rfl⟩
  | true =>
    have hok : twoOk P U V := hr1.1 rfl
    have G := grp_of_r hok.1
    have hU := hok.2.1.2
    have hV := hok.2.2.2
    have HOK := Lib.hid hok; clear hr1 hok
    have hu1 : Rows2 Su w1 (.slice au U.length capu) (cseq P (gU P U)) := by rw [← hU]; exact Rows2.ext hu0 hg1
    have hv1 : Rows2 Sv w1 (.slice av V.length capv) (cseq P (gU P V)) := by rw [← hV]; exact Rows2.ext hv0 hg1
    have HUV := Lib.hid (And.intro hU hV); clear hU hV
    go_wp2_with fail
    clear hb0 hb1 hb2
    refine Calls.mono (l13Normal_ok P G w1 _ _ (gU P U) Any Su (G.subB HOK.out.2.1) ⟨_, _, _, rfl, Pres3.ext h36 hg1⟩ hu1) ?_
    rintro e2 w2 ⟨v2, rfl, hg2, r2, rfl, hr2⟩
    have hg02 := grown_trans hg1 hg2
    obtain ⟨hb0, hb1, hb2⟩ := HB.out w2 hg02
    cases r2 with
    | false =>
      obtain ⟨hc, hL⟩ := ic_not HOK.out (fun h => by have := hr2.2 h; cases this)
      have HC := Lib.hid (And.intro hc hL); clear hc hL hr2
      go_wp2
      go_ret2
      exact ⟨_, rfl, grown_trans hg0 hg02, by rw [HC.out.1, HC.out.2]; rfl⟩
    | true =>
      obtain ⟨hc, hL⟩ := ic_ok HOK.out (hr2.1 rfl)
      have HC := Lib.hid (And.intro hc hL); clear hc hL hr2
      go_wp2_with fail
      clear hb0 hb1 hb2
      refine Calls.mono (l20Complement_ok P G w2 _ _ _ (gU P U) (gU P V) Any Su Sv (G.subB HOK.out.2.1) (G.subB HOK.out.2.2) ⟨_, _, _, rfl, Pres3.ext h36 hg02⟩ (Rows2.ext hu1 hg2) (Rows2.ext hv1 hg2)) ?_
      rintro e3 w3 ⟨v3, rfl, hg3, rfl⟩
      go_wp2
      go_ret2
      exact ⟨_, rfl, grown_trans hg0 (grown_trans hg02 hg3), by rw [HC.out.1, HC.out.2]; rfl⟩

end Go.Proofs.YtchbegeklckgnaaGreat
