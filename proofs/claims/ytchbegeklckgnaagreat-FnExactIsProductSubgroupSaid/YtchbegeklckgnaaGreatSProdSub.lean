/-
  IsProductSubgroup on both sides.
-/
import Derived.Test.YtchbegeklckgnaaGreatSTwo
import Derived.Test.YtchbegeklckgnaaGreatSConcat
import Derived.Test.YtchbegeklckgnaaGreatSAppMany
namespace Go.Proofs.YtchbegeklckgnaaGreat
open Go.RowKit

open Classical in
noncomputable def psV (P : Pr) (U V : List (List Int)) : Bool := if twoOk P U V then decide (prodSz P (gU P U) (gU P V) = prodU P (cseq P (gU P (U ++ V))) (cseq P (gU P (U ++ V))).length) else false

theorem ps_bad {P : Pr} {U V : List (List Int)} (h : ¬ twoOk P U V) : psV P U V = false := by
  unfold psV; rw [if_neg h]
theorem ps_ok {P : Pr} {U V : List (List Int)} (h : twoOk P U V) : psV P U V = (prodSz P (gU P U) (gU P V) == prodU P (cseq P (gU P (U ++ V))) (cseq P (gU P (U ++ V))).length) := by
  unfold psV; rw [if_pos h]
  rw [Bool.eq_iff_iff]; simp

theorem flatTo_two (U V : List (List Int)) : flatTo [U, V] 2 = U ++ V := by simp [flatTo, gt]

set_option maxRecDepth 100000 in
set_option maxHeartbeats 4000000 in
theorem iPs_ok (P : Pr) (w : World) (pv uv vv : Value) (U V : List (List Int)) (Sp Su Sv : Nat → Prop) (hpv : PresV Sp w pv P) (hu : Rows2 Su w uv U) (hv : Rows2 Sv w vv V) :
    Calls Tryz.prog 39 #[pv, uv, vv] w (Ret w fun _ v => v = .tuple #[.bool (psV P U V), .int .i64 (twoC P U V)]) := by
  obtain ⟨vo, vp, vc, rfl, h3⟩ := hpv
  have hp0 := PresP.box h3 32
  have hg0 : Ext w (w.alloc (.cells #[vo, vp, vc] 32)) := World.grownBy_alloc _ _ _
  have hs0 : (w.alloc (.cells #[vo, vp, vc] 32)).heap.size = w.heap.size + 1 := by simp
  have hu0 := Rows2.ext hu hg0
  have hv0 := Rows2.ext hv hg0
  obtain ⟨au, capu, rfl, _, _⟩ := Sl.shape hu
  obtain ⟨av, capv, rfl, _, _⟩ := Sl.shape hv
  have hg1 : Ext (w.alloc (.cells #[vo, vp, vc] 32)) ((w.alloc (.cells #[vo, vp, vc] 32)).alloc (.cells #[.slice au U.length capu, .slice av V.length capv] 23)) := World.grownBy_alloc _ _ _
  have hl := rows3Two hu0 hv0
  have hcon := areSubgroups_ok P _ _ _ [U, V] Any Any (hp0.ext hg1) hl
  rw [hs0] at hcon
  clear hl hu hv
  go_enter Tryz.func39, Tryz.ntmps39
  go_wp2_with fail
  refine Calls.mono hcon ?_
  rintro e1 w1 ⟨v1, rfl, hgA, r1, rfl, hr1⟩
  clear hcon
  have hr1 : r1 = true ↔ twoOk P U V := by rw [hr1]; unfold twoOk; simp
  have hg01 := grown_trans hg1 hgA
  have HS := Lib.hid hs0; clear hs0
  generalize hw0 : w.alloc (.cells #[vo, vp, vc] 32) = w0 at *
  clear hw0 hg1 hgA
  cases r1 with
  | false =>
    have hbad : ¬ twoOk P U V := fun h => by have := hr1.2 h; cases this
    have hc := (two_bad hbad).1
    have hL := ps_bad hbad
    clear hbad
    have HC := Lib.hid (And.intro hc hL); clear hc hL hr1
    go_wp2
    go_ret2
    exact ⟨_, rfl, grown_trans hg0 hg01, by rw [HC.out.1, HC.out.2]; rfl⟩
  | true =>
    have hok := hr1.1 rfl
    have G := grp_of_r hok.1
    have hc := (two_ok hok).1
    have hL := ps_ok hok
    have hn6 := G.v.n6
    have hul : U.length ≤ P.orders.length := G.sub_len hok.2.1
    have hvl : V.length ≤ P.orders.length := G.sub_len hok.2.2
    have hUVv : ∀ x ∈ U ++ V, Vec P.orders x := fun x hx => (List.mem_append.1 hx).elim (hok.2.1.1 x) (hok.2.2.1 x)
    have hU := hok.2.1.2
    have hV := hok.2.2.2
    have HC := Lib.hid (And.intro hc (And.intro hL hok)); clear hc hL hr1 hok
    have hu1 : Rows2 Su w1 (.slice au U.length capu) (cseq P (gU P U)) := by rw [← hU]; exact Rows2.ext hu0 hg01
    have hv1 : Rows2 Sv w1 (.slice av V.length capv) (cseq P (gU P V)) := by rw [← hV]; exact Rows2.ext hv0 hg01
    have HUV := Lib.hid (And.intro hU hV); clear hU hV
    have HVV := Lib.hid hUVv; clear hUVv
    clear hr1
    go_wp2_with fail
    refine Calls.mono (productSize_ok P G w1 _ _ _ (gU P U) (gU P V) Any Su Sv (G.subB HC.out.2.2.2.1) (G.subB HC.out.2.2.2.2) (hp0.ext hg01) hu1 hv1) ?_
    rintro e2 w2 ⟨v2, rfl, hg2, rfl⟩
    obtain ⟨z1, hz1⟩ : ∃ z1, z1 = prodSz P (gU P U) (gU P V) := ⟨_, rfl⟩
    rw [← hz1]
    have HZ1 := Lib.hid hz1; clear hz1
    have hg02 := grown_trans hg01 hg2
    have hga : Ext w2 (w2.alloc (.cells #[.slice au U.length capu, .slice av V.length capv] 23)) := World.grownBy_alloc _ _ _
    have hlit := rows3Two (Rows2.ext hu0 hg02) (Rows2.ext hv0 hg02)
    have hcc := concatRows_ok (w2.alloc (.cells #[.slice au U.length capu, .slice av V.length capv] 23)) _ [U, V] Any hlit (fun u hu => by simp at hu; rcases hu with rfl | rfl <;> omega) (by simp)
    have hfl : flatTo [U, V] [U, V].length = U ++ V := flatTo_two U V
    rw [hfl] at hcc
    have HCC := Lib.hid hcc; clear hcc hlit hfl
    go_wp2_with fail
    refine Calls.mono HCC.out ?_
    rintro e3 w3 ⟨v3, rfl, hg3, hR3⟩
    clear HCC
    have hg03 := grown_trans hg02 (grown_trans hga hg3)
    obtain ⟨ac, capc, hvc, _, _⟩ := Sl.shape hR3
    rw [List.length_append] at hvc
    subst hvc
    go_wp2_with fail
    refine Calls.mono (generated_ok P G w3 _ _ (U ++ V) Any Any (hp0.ext hg03) hR3 HVV.out (by rw [List.length_append]; omega)) ?_
    rintro e4 w4 ⟨v4, rfl, hg4, hO4⟩
    have hS4 : Sub P (gU P (U ++ V)) := G.genP_sub HVV.out
    have hcl : (cseq P (gU P (U ++ V))).length ≤ P.orders.length := G.cseq_len hS4
    have hR4 : Rows2 (From w3.heap.size) w4 v4 (cseq P (gU P (U ++ V))) := RowsD.rows (SlO.toD hO4 (by show (cseq P (gU P (U ++ V))).length ≤ _; omega))
    clear hO4
    obtain ⟨ad, capd, hvd, _, _⟩ := Sl.shape hR4
    subst hvd
    have hg04 := grown_trans hg03 hg4
    have hsq4 := (G.seq_facts hS4).1
    have HS4 := Lib.hid hsq4; clear hsq4
    go_wp2_with fail
    refine Calls.mono (sizeOf_ok P G.v w4 _ _ (cseq P (gU P (U ++ V))) Any _ (hp0.ext hg04) hR4 HS4.out (by omega)) ?_
    rintro e5 w5 ⟨v5, rfl, hg5, rfl⟩
    obtain ⟨z2, hz2⟩ : ∃ z2, z2 = prodU P (cseq P (gU P (U ++ V))) (cseq P (gU P (U ++ V))).length := ⟨_, rfl⟩
    rw [← hz2]
    have HZ2 := Lib.hid hz2; clear hz2
    go_wp2
    go_ret2
    exact ⟨_, rfl, grown_trans hg0 (grown_trans hg04 hg5), by rw [HC.out.1, HC.out.2.1, ← HZ1.out, ← HZ2.out]; rfl⟩

set_option maxRecDepth 100000 in
set_option maxHeartbeats 4000000 in
theorem sPs_ok (P : Pr) (w : World) (pv uv vv : Value) (U V : List (List Int)) (Sp Su Sv : Nat → Prop) (hpv : PresV Sp w pv P) (hu : Rows2 Su w uv U) (hv : Rows2 Sv w vv V) :
    Calls Tryz.prog 38 #[pv, uv, vv] w (Ret w fun _ v => v = .tuple #[.bool (psV P U V), .int .i64 (twoC P U V)]) := by
  obtain ⟨vo, vp, vc, rfl, h3⟩ := hpv
  have hp0 := PresP.box h3 32
  have hg0 : Ext w (w.alloc (.cells #[vo, vp, vc] 32)) := World.grownBy_alloc _ _ _
  have hu0 := Rows2.ext hu hg0
  have hv0 := Rows2.ext hv hg0
  obtain ⟨au, capu, rfl, _, _⟩ := Sl.shape hu
  obtain ⟨av, capv, rfl, _, _⟩ := Sl.shape hv
  obtain ⟨vo6, vp6, vc6, _, _, hc0, hc1, hc2, h36⟩ := hp0.at
  simp only [Nat.zero_add] at hc1 hc2
  have hbx : ∀ w', Ext (w.alloc (.cells #[vo, vp, vc] 32)) w' → w'.cell? ⟨w.heap.size, 0, none⟩ = some vo6 ∧ w'.cell? ⟨w.heap.size, 1, none⟩ = some vp6 ∧ w'.cell? ⟨w.heap.size, 2, none⟩ = some vc6 := fun w' h => ⟨h.cell hc0 (by simp), h.cell hc1 (by simp), h.cell hc2 (by simp)⟩
  have HB := Lib.hid hbx; clear hbx
  have hE := l13Two_ok P (w.alloc (.cells #[vo, vp, vc] 32)) _ _ _ U V Any Su Sv ⟨_, _, _, rfl, h36⟩ hu0 hv0
  clear hp0 hu hv
  go_enter Tryz.func38, Tryz.ntmps38
  go_wp2_with fail
  clear hc0 hc1 hc2
  generalize hw0 : w.alloc (.cells #[vo, vp, vc] 32) = w0 at *
  clear hw0
  refine Calls.mono hE ?_
  rintro e1 w1 ⟨v1, rfl, hg1, r1, rfl, hr1⟩
  clear hE
  obtain ⟨hb0, hb1, hb2⟩ := HB.out w1 hg1
  cases r1 with
  | false =>
    have hbad : ¬ twoOk P U V := fun h => by have := hr1.2 h; cases this
    have hc := (two_bad hbad).1
    have hL := ps_bad hbad
    clear hbad
    have HC := Lib.hid (And.intro hc hL); clear hc hL hr1
    go_wp2
    go_ret2
    exact ⟨_, rfl, grown_trans hg0 hg1, by rw [HC.out.1, HC.out.2]; rfl⟩
  | true =>
    have hok : twoOk P U V := hr1.1 rfl
    have G := grp_of_r hok.1
    have hc := (two_ok hok).1
    have hL := ps_ok hok
    have hn6 := G.v.n6
    have hul : U.length ≤ P.orders.length := G.sub_len hok.2.1
    have hvl : V.length ≤ P.orders.length := G.sub_len hok.2.2
    have hUVv : ∀ x ∈ U ++ V, Vec P.orders x := fun x hx => (List.mem_append.1 hx).elim (hok.2.1.1 x) (hok.2.2.1 x)
    have hU := hok.2.1.2
    have hV := hok.2.2.2
    have HC := Lib.hid (And.intro hc (And.intro hL hok)); clear hc hL hr1 hok
    have hu1 : Rows2 Su w1 (.slice au U.length capu) (cseq P (gU P U)) := by rw [← hU]; exact Rows2.ext hu0 hg1
    have hv1 : Rows2 Sv w1 (.slice av V.length capv) (cseq P (gU P V)) := by rw [← hV]; exact Rows2.ext hv0 hg1
    have HUV := Lib.hid (And.intro hU hV); clear hU hV
    clear hb0 hb1 hb2
    have hS4 : Sub P (gU P (U ++ V)) := G.genP_sub hUVv
    have hcl : (cseq P (gU P (U ++ V))).length ≤ P.orders.length := G.cseq_len hS4
    have hsq4 := (G.seq_facts hS4).1
    have hUl : ∀ x ∈ U, x.length ≤ 1000000 := fun x hx => by rw [(hUVv x (List.mem_append_left _ hx)).1]; omega
    have HVV := Lib.hid (And.intro hUVv (And.intro hsq4 hUl)); clear hUVv hsq4 hUl
    have f1 : ∀ w', Ext w1 w' → w'.cell? ⟨w.heap.size, 0, none⟩ = some vo6 := fun w' h => (HB.out w' (grown_trans hg1 h)).1
    have f2 : ∀ w', Ext w1 w' → w'.cell? ⟨w.heap.size, 1, none⟩ = some vp6 := fun w' h => (HB.out w' (grown_trans hg1 h)).2.1
    have f3 : ∀ w', Ext w1 w' → w'.cell? ⟨w.heap.size, 2, none⟩ = some vc6 := fun w' h => (HB.out w' (grown_trans hg1 h)).2.2
    go_wp2
    go_region_held3 (fun w' => Ext w1 w') (first | exact grown_drew _ _ | assumption)
      (first
        | (go_at_call 74; refine Calls.mono (Calls.rel2 (w0 := w1) (by assumption) (l01Own2N_ok _ _ U Any (Rows2.sub (Rows2.ext hu0 (grown_trans hg1 (by assumption))) (fun _ _ _ => trivial)) HVV.out.2.2 (by omega))) ?_; rintro eA wA ⟨vA, rfl, hgA, hgA2, hsA, hOA, gA, capA, rfl⟩)
        | (refine step_app_rows rfl _ _ rfl w1.heap.size gA capA U V rfl (hOA.weak hsA) _ (fun k => k < w1.heap.size) (Rows2.sub (Rows2.ext (Rows2.sub (Rows2.ext hv0 hg1) (S' := fun k => k < w1.heap.size) (fun k _ h => h)) hgA) (fun _ h _ => h)) (fun k h _ => h) rfl (by omega) hgA.size ?_; intro vB wB hRB hgB; have hgwB : Ext w1 wB := grown_own hgA hgB (fun j hj hlt => by
              cases hj
              obtain ⟨vs, G0, _, hOO, _⟩ := hOA
              have := (hOO.lt gA rfl).1
              omega); obtain ⟨aB, capB, hvB, _, _⟩ := Sl.shape hRB; rw [List.length_append] at hvB; subst hvB)
        | (go_at_call 73; refine Calls.mono (Calls.rel (w0 := w1) (by assumption) (l12Close_ok P G _ _ _ (U ++ V) Any Any ⟨_, _, _, rfl, Pres3.ext h36 (grown_trans hg1 (by assumption))⟩ hRB HVV.out.1 (by rw [List.length_append]; omega))) ?_; rintro eC wC ⟨vC, rfl, hgC, hsC, hRC⟩))
    clear f1 f2 f3
    have hRC' : Rows2 Any wC vC (cseq P (gU P (U ++ V))) := hRC
    clear hRC
    obtain ⟨aC, capC, hvC, _, _⟩ := Sl.shape hRC'
    subst hvC
    have hg1C := grown_trans hg1 hgC
    obtain ⟨z1, hz1⟩ : ∃ z1, z1 = prodSz P (gU P U) (gU P V) := ⟨_, rfl⟩
    obtain ⟨z2, hz2⟩ : ∃ z2, z2 = prodU P (cseq P (gU P (U ++ V))) (cseq P (gU P (U ++ V))).length := ⟨_, rfl⟩
    have HZ := Lib.hid (And.intro hz1 hz2); clear hz1 hz2
    have f1 : ∀ w', Ext wC w' → w'.cell? ⟨w.heap.size, 0, none⟩ = some vo6 := fun w' h => (HB.out w' (grown_trans hg1C h)).1
    have f2 : ∀ w', Ext wC w' → w'.cell? ⟨w.heap.size, 1, none⟩ = some vp6 := fun w' h => (HB.out w' (grown_trans hg1C h)).2.1
    have f3 : ∀ w', Ext wC w' → w'.cell? ⟨w.heap.size, 2, none⟩ = some vc6 := fun w' h => (HB.out w' (grown_trans hg1C h)).2.2
    go_wp2
    go_region_held3 (fun w' => Ext wC w') (first | exact grown_drew _ _ | assumption)
      (first
        | (go_at_call 67; refine Calls.mono (Calls.rel (w0 := wC) (by assumption) (l13Size_ok P G _ _ _ _ (gU P U) (gU P V) Any Any Any (G.subB HC.out.2.2.2.1) (G.subB HC.out.2.2.2.2) ⟨_, _, _, rfl, Pres3.ext h36 (grown_trans hg1C (by assumption))⟩ (Rows2.sub (Rows2.ext (Rows2.ext hu1 hgC) (by assumption)) (fun _ _ _ => trivial)) (Rows2.sub (Rows2.ext (Rows2.ext hv1 hgC) (by assumption)) (fun _ _ _ => trivial)))) ?_; rintro eD wD ⟨vD, rfl, hgD, hsD, hvD⟩; rw [← HZ.out.1] at hvD; subst hvD)
        | (go_at_call 59; refine Calls.mono (Calls.rel (w0 := wC) (by assumption) (l12Order_ok P G.v _ _ _ (cseq P (gU P (U ++ V))) Any Any ⟨_, _, _, rfl, Pres3.ext h36 (grown_trans hg1C (by assumption))⟩ (Rows2.ext hRC' (by assumption)) HVV.out.2.1 (by omega))) ?_; rintro eE wE ⟨vE, rfl, hgE, hsE, hvE⟩; rw [← HZ.out.2] at hvE; subst hvE))
    clear f1 f2 f3
    go_wp2
    go_ret2
    exact ⟨_, rfl, grown_trans hg0 (grown_trans hg1C hgE), by rw [HC.out.1, HC.out.2.1, ← HZ.out.1, ← HZ.out.2]; rfl⟩

end Go.Proofs.YtchbegeklckgnaaGreat
