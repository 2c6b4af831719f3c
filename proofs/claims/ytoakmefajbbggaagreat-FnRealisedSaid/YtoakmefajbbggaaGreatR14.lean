/-
  spec.RegularRealisation.
  impl.RegularRealisation.
  impl.areElements.
  impl.Multiply, Inverse, Commutator on elements (printed by gen_elw.py).
  Words: slices.Reverse, impl.invertWord.
  slices.Repeat at a list of one integer.
  impl.PresentationRelators.
  The program's homomorphisms: impl.evaluate, respects.
  impl.IsBijection, ComposeBijections on bijections.
-/
import Derived.Test.YtoakmefajbbggaaGreatR1
import Derived.Test.YtoakmefajbbggaaGreatR10
import Derived.Test.YtoakmefajbbggaaGreatR13
import Derived.Test.YtoakmefajbbggaaGreatR2
import Derived.Test.YtoakmefajbbggaaGreatR3
import Derived.Test.YtoakmefajbbggaaGreatR4
import Derived.Test.YtoakmefajbbggaaGreatR5
import Derived.Test.YtoakmefajbbggaaGreatR6
import Derived.Test.YtoakmefajbbggaaGreatR7
import Derived.Test.YtoakmefajbbggaaGreatR9
import Derived.Sort.OwnSortedInts
import Derived.Shelf.SlicesE.Reverse
import Derived.Laws.CopyOwn
import Derived.Deep.RegionLaw
import Derived.Shelf.Bits.Mul64
namespace Go.Proofs.YtoakmefajbbggaaGreat
open Go.RowKit
attribute [local go_sem ↓] Go.wp_at_zero Go.wp_at_succ

/-- what RegularRealisation answers -/
noncomputable def rrC (P : Pr) : Int := if rconsB P = true then (if 128 < ordP P then 3 else 0) else 1
noncomputable def rrL (P : Pr) : List (List Int) := if rconsB P = true then (if 128 < ordP P then [] else rgL P) else []
theorem rr_no {P : Pr} (h : rconsB P = false) : rrC P = 1 ∧ rrL P = [] := by unfold rrC rrL; rw [h]; exact ⟨rfl, rfl⟩
theorem rr_big {P : Pr} (h : rconsB P = true) (h2 : 128 < ordP P) : rrC P = 3 ∧ rrL P = [] := by unfold rrC rrL; rw [if_pos h, if_pos h2, if_pos h, if_pos h2]; exact ⟨rfl, rfl⟩
theorem rr_ok {P : Pr} (h : rconsB P = true) (h2 : ¬ 128 < ordP P) : rrC P = 0 ∧ rrL P = rgL P := by unfold rrC rrL; rw [if_pos h, if_neg h2, if_pos h, if_neg h2]; exact ⟨rfl, rfl⟩
theorem rows_none {S : Nat → Prop} {w : World} : Rows2 S w (.slice none 0 0) [] := ⟨none, 0, rfl, ⟨by simp, by simp, fun _ => rfl⟩, fun i hi => by simp at hi⟩

set_option maxRecDepth 100000 in
set_option maxHeartbeats 8000000 in
theorem sReg_ok (P : Pr) (w : World) (pv : Value) (Sp : Nat → Prop) (hpv : PresV Sp w pv P) :
    Calls Tryz.prog 32 #[pv] w (Ret w fun w' v => ∃ (a : Option Addr) (n c : Nat), v = .tuple #[.slice a n c, .int .i64 (rrC P)] ∧ Rows2 Any w' (.slice a n c) (rrL P)) := by
  obtain ⟨vo, vp, vc, rfl, h3⟩ := hpv
  obtain ⟨a1, n1, c1, hy1⟩ : ∃ a n c, vo = .slice a n c := by obtain ⟨a, c, e, _⟩ := h3.o.shape; exact ⟨_, _, _, e⟩
  obtain ⟨a2, n2, c2, hy2⟩ : ∃ a n c, vp = .slice a n c := by obtain ⟨a, c, e, _⟩ := Sl.shape h3.p; exact ⟨_, _, _, e⟩
  obtain ⟨a3, n3, c3, hy3⟩ : ∃ a n c, vc = .slice a n c := by obtain ⟨a, c, e, _⟩ := Sl.shape h3.c; exact ⟨_, _, _, e⟩
  subst hy1 hy2 hy3
  have hbA := Box3.made w 28 (.slice a1 n1 c1) (.slice a2 n2 c2) (.slice a3 n3 c3)
  have hgA : Ext w (w.alloc (.cells #[.slice a1 n1 c1, .slice a2 n2 c2, .slice a3 n3 c3] 28)) := World.grownBy_alloc _ _ _
  have h3A := h3.ext hgA
  have H3 := Lib.hid h3A; clear h3A h3
  go_enter Tryz.func32, Tryz.ntmps32
  obtain ⟨b0, b1, b2, b3, b4⟩ := id hbA
  go_wp2_with fail
  generalize w.alloc (.cells #[.slice a1 n1 c1, .slice a2 n2 c2, .slice a3 n3 c3] 28) = w0 at *
  refine Calls.mono (l08Group_ok P w0 _ Sp ⟨_, _, _, rfl, H3.out⟩) ?_
  rintro e1 w1 ⟨v1, rfl, hg1, rfl⟩
  have hgw1 := grown_trans hgA hg1
  clear b0 b1 b2 b3 b4
  obtain ⟨b0, b1, b2, b3, b4⟩ := id (hbA.ext hg1)
  cases hr : rconsB P with
  | false =>
    go_wp2_with fail
    try go_wp2
    go_ret2
    exact ⟨_, rfl, hgw1, none, 0, 0, by rw [(rr_no hr).1]; rfl, by rw [(rr_no hr).2]; exact rows_none⟩
  | true =>
    have G := grp_of_r hr
    go_wp2_with fail
    refine Calls.mono (l10Order_ok w1 _ P Sp G.v ⟨_, _, _, rfl, H3.out.ext hg1⟩) ?_
    rintro e2 w2 ⟨v2, rfl, hg2, rfl⟩
    have hgw2 := grown_trans hgw1 hg2
    clear b0 b1 b2 b3 b4
    obtain ⟨b0, b1, b2, b3, b4⟩ := id ((hbA.ext hg1).ext hg2)
    by_cases h128 : 128 < ordP P
    · obtain ⟨e1, e2⟩ := rr_big hr h128
      have HE := Lib.hid (And.intro e1 e2); clear e1 e2
      go_wp2_with fail
      try go_wp2
      go_ret2
      exact ⟨_, rfl, hgw2, none, 0, 0, by rw [HE.out.1]; rfl, by rw [HE.out.2]; exact rows_none⟩
    · obtain ⟨e1, e2⟩ := rr_ok hr h128
      have HE := Lib.hid (And.intro e1 e2); clear e1 e2
      go_wp2_with fail
      refine Calls.mono (l11Regular_ok P G w2 _ Sp ⟨_, _, _, rfl, (H3.out.ext hg1).ext hg2⟩) ?_
      rintro e3 w3 ⟨v3, rfl, hg3, hR⟩
      have hRR := Rows2.sub (S' := Any) (RowsD.rows (SlO.toD hR (by rw [rgL_len]; have := G.v.n6; omega))) (fun _ _ _ => trivial)
      obtain ⟨a, c, rfl, _⟩ := Sl.shape hRR
      have HR := Lib.hid hRR; clear hRR hR
      go_wp2_with fail
      try go_wp2
      go_ret2
      exact ⟨_, rfl, grown_trans hgw2 hg3, _, _, _, by rw [HE.out.1]; rfl, by rw [HE.out.2]; exact HR.out⟩

end Go.Proofs.YtoakmefajbbggaaGreat
namespace Go.Proofs.YtoakmefajbbggaaGreat
open Go.RowKit
attribute [local go_sem ↓] Go.wp_at_zero Go.wp_at_succ

theorem Grp.tg_eq {P : Pr} (G : Grp P) {E : List Int} (hE : Vec P.orders E) {j : Nat} (hj : j < P.orders.length) : tg P E j = rMul P E (unitV P.orders.length j) := G.lvl.tg_eq G.v (by omega) (T_zero.2 hE) (Nat.zero_le _) hj
theorem allElL (P : Pr) : (allEl P).length = (ordP P).toNat := by unfold allEl; rw [List.length_map, List.length_range]
theorem gt_allElL {P : Pr} {t : Nat} (h : t < (ordP P).toNat) : gt (allEl P) t = elAt P (t : Int) := by
  unfold allEl
  rw [gt_map _ _ _ (by rw [List.length_range]; exact h), gt_range h]

set_option maxRecDepth 100000 in
set_option maxHeartbeats 16000000 in
theorem iReg_ok (P : Pr) (w : World) (pv : Value) (Sp : Nat → Prop) (hpv : PresV Sp w pv P) :
    Calls Tryz.prog 31 #[pv] w (Ret w fun w' v => ∃ (a : Option Addr) (n c : Nat), v = .tuple #[.slice a n c, .int .i64 (rrC P)] ∧ Rows2 Any w' (.slice a n c) (rrL P)) := by
  obtain ⟨vo, vp, vc, rfl, h3⟩ := hpv
  obtain ⟨a1, n1, c1, hy1⟩ : ∃ a n c, vo = .slice a n c := by obtain ⟨a, c, e, _⟩ := h3.o.shape; exact ⟨_, _, _, e⟩
  obtain ⟨a2, n2, c2, hy2⟩ : ∃ a n c, vp = .slice a n c := by obtain ⟨a, c, e, _⟩ := Sl.shape h3.p; exact ⟨_, _, _, e⟩
  obtain ⟨a3, n3, c3, hy3⟩ : ∃ a n c, vc = .slice a n c := by obtain ⟨a, c, e, _⟩ := Sl.shape h3.c; exact ⟨_, _, _, e⟩
  subst hy1 hy2 hy3
  obtain rfl : P.orders.length = n1 := by
    obtain ⟨a, c, e, _⟩ := h3.o.shape
    cases e; rfl
  have hbA := Box3.made w 28 (.slice a1 P.orders.length c1) (.slice a2 n2 c2) (.slice a3 n3 c3)
  have hgA : Ext w (w.alloc (.cells #[.slice a1 P.orders.length c1, .slice a2 n2 c2, .slice a3 n3 c3] 28)) := World.grownBy_alloc _ _ _
  have hpA := PresP.box h3 28
  have h3A := h3.ext hgA
  have hsA : w.heap.size + 1 = (w.alloc (.cells #[.slice a1 P.orders.length c1, .slice a2 n2 c2, .slice a3 n3 c3] 28)).heap.size := by simp
  have HS := Lib.hid hsA; clear hsA
  have HP0 := Lib.hid (And.intro h3A hpA); clear h3A h3 hpA
  go_enter Tryz.func31, Tryz.ntmps31
  obtain ⟨b0, b1, b2, b3, b4⟩ := id hbA
  go_wp2_with fail
  generalize w.alloc (.cells #[.slice a1 P.orders.length c1, .slice a2 n2 c2, .slice a3 n3 c3] 28) = w0 at *
  clear b0 b1 b2 b3 b4
  refine Calls.mono (isConsistent_ok P w0 _ Sp ⟨_, _, _, rfl, HP0.out.1⟩) ?_
  rintro e1 w1 ⟨v1, rfl, hg1, rfl⟩
  rw [icons_eq]
  have hgw1 := grown_trans hgA hg1
  cases hr : rconsB P with
  | false =>
    go_wp2_with fail
    try go_wp2
    go_ret2
    exact ⟨_, rfl, hgw1, none, 0, 0, by rw [(rr_no hr).1]; rfl, by rw [(rr_no hr).2]; exact rows_none⟩
  | true =>
    have G := grp_of_r hr
    have hP := G.v
    have hn6 := hP.n6
    have hop := hP.ordP_pos
    have h729 : ordP P ≤ 729 := hP.le729
    go_wp2_with fail
    refine Calls.mono (orderOf_ok w1 _ P Any hP (HP0.out.2.ext hg1)) ?_
    rintro _ _ ⟨rfl, rfl⟩
    by_cases h128 : 128 < ordP P
    · obtain ⟨e1, e2⟩ := rr_big hr h128
      have HE := Lib.hid (And.intro e1 e2); clear e1 e2 hop h729
      go_wp2_with fail
      try go_wp2
      go_ret2
      exact ⟨_, rfl, hgw1, none, 0, 0, by rw [HE.out.1]; rfl, by rw [HE.out.2]; exact rows_none⟩
    · obtain ⟨e1, e2⟩ := rr_ok hr h128
      obtain ⟨N, hN⟩ : ∃ N, N = (ordP P).toNat := ⟨_, rfl⟩
      have hN1 : 0 < N ∧ N ≤ 128 := by omega
      have hrl : ∀ i, (rgR P i).length = N := fun i => by rw [rgR_len, hN]
      have heV : ∀ t : Nat, Vec P.orders (elAt P (t : Int)) := fun t => elAt_vec hP _ (by omega)
      have hrt : ∀ i t, t < N → (rgR P i).take (t + 1) = (rgR P i).take t ++ [num P (rMul P (elAt P (t : Int)) (unitV P.orders.length i))] := fun i t ht => by rw [take_succ_gt _ t (by rw [hrl]; exact ht), gt_rgR (by rw [← hN]; exact ht)]
      have hLt : ∀ i, i < P.orders.length → (rgL P).take (i + 1) = (rgL P).take i ++ [rgR P i] := fun i hi => by rw [take_succ_gt _ i (by rw [rgL_len]; exact hi), gt_rgL hi]
      have hal : (allEl P).length = N := by rw [allElL, hN]
      have hat : ∀ t : Nat, t < N → gt (allEl P) t = elAt P (t : Int) := fun t ht => gt_allElL (by rw [← hN]; exact ht)
      have hpp : ∀ w', Ext w1 w' → PresP Any w' (.pointer (some ⟨w.heap.size, 0, none⟩)) P := fun w' h => HP0.out.2.ext (grown_trans hg1 h)
      have htv : ∀ t i, i < P.orders.length → Vec P.orders (tg P (elAt P ((t : Nat) : Int)) i) ∧ tg P (elAt P ((t : Nat) : Int)) i = rMul P (elAt P (t : Int)) (unitV P.orders.length i) := fun t i hi => ⟨tg_vec hP _ i (heV t) hi, G.tg_eq (heV t) hi⟩
      have HC := Lib.hid (And.intro hrt (And.intro hLt (And.intro hal (And.intro hat (And.intro htv (And.intro hpp hrl))))))
      have HE := Lib.hid (And.intro e1 e2)
      clear e1 e2 hN hrt hLt hal hat htv hpp hrl hop h729
      obtain ⟨n, hn⟩ : ∃ n, n = P.orders.length := ⟨_, rfl⟩
      obtain ⟨b0, b1, b2, b3, b4⟩ := id (hbA.ext hg1)
      rw [← hn] at b1
      have HN := Lib.hid hn; clear hn
      go_wp2
      clear b0 b1 b2 b3 b4 h128
      go_loopw [4, 17] (fun ov iv wr => ∃ (i : Nat) (v5 : Value), v5 = ov ∧ iv = .int .i64 (i : Int) ∧ i ≤ n ∧ Ext w1 wr ∧ RowsO w1.heap.size wr v5 ((rgL P).take i)) (fun _ iv _ => n - (intOf iv).toNat)
      case atStart => exact ⟨0, _, rfl, rfl, by omega, grown_refl _ _, by rw [List.take_zero]; exact SlO.nil _ _ _ _⟩
      case round =>
        obtain ⟨i, v5, rfl, rfl, hi, hg, hA⟩ := hrel
        obtain ⟨wo, rfl⟩ : ∃ wo : World, wo = wr := ⟨_, rfl⟩
        by_cases hlt : i < n
        · have hlt' : (i : Int) < n := by omega
          have hiP : i < P.orders.length := by rw [← HN.out]; exact hlt
          have HA := Lib.hid hA; clear hA
          go_wp2_with fail
          refine Calls.mono (allElements_ok P hP wo _ Any (HC.out.2.2.2.2.2.1 wo hg)) ?_
          rintro e3 w3 ⟨lv, rfl, hg3, hL⟩
          obtain ⟨vs, g, hvl, hO, hGr, hd, hEl⟩ := hL
          rw [HC.out.2.2.1] at hvl hGr hd hEl
          obtain ⟨gb, cp, rfl, hcp, hgb, hgb2⟩ : ∃ gb cp, lv = .slice (some ⟨gb, 0, none⟩) vs.length cp ∧ vs.length ≤ cp ∧ wo.heap.size ≤ gb ∧ gb < w3.heap.size := by
            rcases hO.form with ⟨_, h2⟩ | h
            · rw [h2] at hvl; simp at hvl; omega
            · exact h
          obtain rfl : vs.length = N := hvl
          obtain ⟨M, hM⟩ : ∃ M, M = vs.length := ⟨_, rfl⟩
          rw [← hM] at hO hGr hd hEl hN1 HC hcp ⊢
          have hEl2 : ∀ t, t < M → OwnIn (g t) w3 (gt vs t) (elAt P (t : Int)) := fun t ht => by rw [← HC.out.2.2.2.1 t ht]; exact hEl t ht
          have hGr2 : ∀ t b, t < M → g t b → wo.heap.size ≤ b ∧ b ≠ gb ∧ b < w3.heap.size := fun t b ht hb => by
            obtain ⟨h1, h2, h3⟩ := hGr t b ht hb
            exact ⟨h1, fun e => h2 (by rw [e]; rfl), h3⟩
          have HG := Lib.hid (And.intro hGr2 (And.intro hd (And.intro hM hgb))); clear hGr2 hGr hd hEl hM hcp
          have HI := Lib.hid (And.intro hO hEl2); clear hO hEl2
          go_wp2
          go_loopw [6, 22] (fun rv tv wr => ∃ (k : Nat) (v6 : Value), v6 = rv ∧ tv = .int .i64 (k : Int) ∧ k ≤ M ∧ Ext wo wr ∧ w3.heap.size ≤ wr.heap.size ∧ Own w3.heap.size wr v6 ((rgR P i).take k) ∧ Hid (OwnV wo.heap.size 24 wr (.slice (some ⟨gb, 0, none⟩) M cp) vs ∧ ∀ t, k ≤ t → t < M → OwnIn (g t) wr (gt vs t) (elAt P (t : Int)))) (fun _ tv _ => M - (intOf tv).toNat)
          case atStart => exact ⟨0, _, rfl, rfl, by omega, hg3, Nat.le_refl _, by rw [List.take_zero]; exact World.ownsRow_nil _ _ _ _, Lib.hid ⟨HI.out.1, fun t _ ht => HI.out.2 t ht⟩⟩
          case round =>
            obtain ⟨k, v6, rfl, rfl, hk, hgr, hs3, hR, hrows⟩ := hrel
            by_cases hkl : k < M
            · have hkl' : (k : Int) < M := by omega
              have hx := hrows.out.2 k (Nat.le_refl _) hkl
              have hvc := OwnV.cell hrows.out.1 k (by rw [← HG.out.2.2.1]; exact hkl)
              obtain ⟨xa, xc, hxs, _, _⟩ := hx.ints.shape
              obtain ⟨X, hX⟩ : ∃ X, X = elAt P (k : Int) := ⟨_, rfl⟩
              rw [← hX] at hx hxs
              rw [hxs] at hvc hx
              have hXV : Vec P.orders X := by rw [hX]; exact elAt_vec hP _ (by omega)
              have hxb : ∀ b, (Value.slice xa X.length xc).ownBlock = some b → g k b := hx.2.1
              have hpo : PresP (Off (Value.slice xa X.length xc).ownBlock) wr (.pointer (some ⟨w.heap.size, 0, none⟩)) P :=
                (HC.out.2.2.2.2.2.1 wo hg).mono (fun q _ hq => ⟨fun e => by have := (HG.out.1 k q hkl (hxb q e)).1; omega, Nat.lt_of_lt_of_le hq hgr.size, hgr.block q hq (by simp)⟩)
              have htg := timesGenerator_ok P hP 0 wr _ _ X i hpo hx.1 hXV hiP
              have hst := HC.out.1 i k hkl
              obtain ⟨c, hc⟩ : ∃ c : Int, c = num P (rMul P (elAt P (k : Int)) (unitV P.orders.length i)) := ⟨_, rfl⟩
              rw [← hc] at hst
              have hll : ((rgR P i).take k).length ≤ 1000000 := by rw [List.length_take]; omega
              have htv := HC.out.2.2.2.2.1 k i hiP
              rw [← hX] at htv hc
              obtain ⟨xl, hxl⟩ : ∃ xl, xl = X.length := ⟨_, rfl⟩
              rw [← hxl] at hvc hxb htg
              have HX := Lib.hid (And.intro htg (And.intro hst (And.intro hc (And.intro hll (And.intro htv hxl))))); clear htg hst hc hll htv hxl hpo hx hxs hX
              go_wp2_with fail
              refine Calls.mono HX.out.1 ?_
              rintro e4 w4 ⟨v4, rfl, hg4, rfl, hO4⟩
              clear hvc
              have hgo4 : Ext wo w4 := grown_own hgr hg4 (fun b hb hlt => by have := (HG.out.1 k b hkl (hxb b hb)).1; omega)
              have hR4 : Own w3.heap.size w4 v6 ((rgR P i).take k) := hR.ext hg4 (by
                cases e : v6.ownBlock with
                | none => exact .inl rfl
                | some b =>
                  refine .inr (fun e2 => ?_)
                  have h1 := (hR.lt b e).1
                  have h2 := (HG.out.1 k b hkl (hxb b e2.symm)).2.2
                  omega)
              have hx4 := hO4.ints (by rw [HX.out.2.2.2.2.1.1.1]; omega)
              have hs4 := Nat.le_trans hs3 hg4.size
              go_wp2_with fail
              refine Calls.mono (numberOf_ok P hP w4 _ _ (tg P X i) Any Any (HC.out.2.2.2.2.2.1 w4 (grown_trans hg hgo4)) hx4 HX.out.2.2.2.2.1.1) ?_
              rintro _ _ ⟨rfl, rfl⟩
              rw [HX.out.2.2.2.2.1.2, ← HX.out.2.2.1]
              go_wp2_with (first | (at_builtin; refine wp_app_int rfl _ _ rfl w3.heap.size v6 ((rgR P i).take k) c rfl w4 hR4 rfl rfl HX.out.2.2.2.1 hs4 ?_; intro v8 w8 hO8 hg8) | fail)
              have hgo8 : Ext wo w8 := grown_own hgo4 hg8 (fun b hb hlt => by have := (hR.lt b hb).1; have := hg3.size; omega)
              rw [← HX.out.2.1] at hO8
              have hv6 : ∀ b, v6.ownBlock = some b → w3.heap.size ≤ b := fun b hb => (hR.lt b hb).1
              have hnext : OwnV wo.heap.size 24 w8 (.slice (some ⟨gb, 0, none⟩) M cp) vs ∧ ∀ t, k + 1 ≤ t → t < M → OwnIn (g t) w8 (gt vs t) (elAt P (t : Int)) := by
                refine ⟨(hrows.out.1.kept hg4 (.inr (fun e => ?_))).kept hg8 (.inr (fun e => ?_)), fun t ht htM => rdOwn.mono (hrows.out.2 t (by omega) htM) (fun b hb hlt => ?_)⟩
                · have e' : (Value.slice xa xl xc).ownBlock = some gb := e.symm
                  exact (HG.out.1 k gb hkl (hxb gb e')).2.1 rfl
                · have e' : v6.ownBlock = some gb := e.symm
                  have := hv6 gb e'
                  omega
                · have hb3 := (HG.out.1 t b htM hb).2.2
                  refine ⟨hb, by have := hg8.size; omega, ?_⟩
                  rw [hg8.block b (by omega) (fun e => by have := hv6 b e.symm; omega)]
                  exact hg4.block b hlt (fun e => by
                    have := HG.out.2.1 t k b htM hkl hb (hxb b e.symm)
                    omega)
              have HNX := Lib.hid hnext; clear hnext hv6
              have hs8 := Nat.le_trans hs4 hg8.size
              go_roundw
              case rel => exact ⟨k + 1, v8, rfl, by go_num, by omega, hgo8, hs8, hO8, HNX⟩
              case measure => simp [intOf]; omega
            · have hke : k = M := by omega
              have hRf : Own w3.heap.size wr v6 (rgR P i) := by
                have e : (rgR P i).take k = rgR P i := by rw [hke, ← HC.out.2.2.2.2.2.2 i, List.take_length]
                rw [e] at hR; exact hR
              obtain ⟨ra, rc, rfl, _, _⟩ := (hRf.ints (by rw [HC.out.2.2.2.2.2.2 i]; omega)).shape
              obtain ⟨rn, hrn⟩ : ∃ rn, rn = (rgR P i).length := ⟨_, rfl⟩
              rw [← hrn] at hRf ⊢
              have hRI : OwnIn (From wo.heap.size) wr (.slice ra rn rc) (rgR P i) := OwnIn.of hRf (by rw [HC.out.2.2.2.2.2.2 i]; omega) (fun b h1 _ => by have := hg3.size; show wo.heap.size ≤ b; omega)
              have hll : ((rgL P).take i).length ≤ 1000000 := by rw [List.length_take]; omega
              have hst := HC.out.2.1 i hiP
              have HX := Lib.hid (And.intro hRI (And.intro hll (And.intro hst hg.size))); clear hRI hll hst hRf hR hrn hrows
              have hnl : ¬ (k : Int) < (M : Int) := by omega
              go_wp2_with (first | (at_builtin; refine wp_app_row rfl _ _ rfl w1.heap.size wo wr v5 _ ((rgL P).take i) (rgR P i) rfl HA.out hgr HX.out.1 rfl rfl HX.out.2.1 HX.out.2.2.2 ?_; intro v8 w8 hO8 hg8 _) | fail)
              have hgn8 : Ext w1 w8 := grown_own hg hg8 (fun j hj hlt => by have := (HA.out.lt j hj).1; omega)
              rw [← HX.out.2.2.1] at hO8
              go_roundw
              case rel => exact ⟨i + 1, v8, rfl, by go_num, by omega, hgn8, hO8⟩
              case measure => simp [intOf]; omega
        · have hie : i = n := by omega
          have hR2 : Rows2 Any wo v5 (rgL P) := by
            have e : (rgL P).take i = rgL P := by rw [hie, HN.out, ← rgL_len P, List.take_length]
            rw [e] at hA
            exact Rows2.sub (RowsD.rows (SlO.toD hA (by rw [rgL_len]; omega))) (fun _ _ _ => trivial)
          obtain ⟨la, lc, rfl, _⟩ := Sl.shape hR2
          obtain ⟨ln, hln⟩ : ∃ ln, ln = (rgL P).length := ⟨_, rfl⟩
          rw [← hln] at hR2 ⊢
          have HR := Lib.hid hR2; clear hR2 hA hln
          have hnl : ¬ (i : Int) < (n : Int) := by omega
          go_wp2_with fail
          try go_wp2
          go_ret2
          exact ⟨_, rfl, grown_trans hgw1 hg, _, _, _, by rw [HE.out.1]; rfl, by rw [HE.out.2]; exact HR.out⟩

end Go.Proofs.YtoakmefajbbggaaGreat
namespace Go.Proofs.YtoakmefajbbggaaGreat
open Go.RowKit

set_option maxRecDepth 100000 in
set_option maxHeartbeats 2000000 in
theorem areElements_ok (Q : Pr) (w : World) (p lv : Value) (L : List (List Int)) (Sp Sl' : Nat → Prop) (hp : PresP Sp w p Q) (hl : Rows2 Sl' w lv L) :
    Calls Tryz.prog 62 #[p, lv] w (Ret w fun _ v => ∃ r : Bool, v = .bool r ∧ (r = true ↔ rconsB Q = true ∧ ∀ x ∈ L, Vec Q.orders x)) := by
  obtain ⟨pb, po, rfl⟩ := hp.shape
  obtain ⟨al, capl, rfl, _, _⟩ := Sl.shape hl
  obtain ⟨vo, vp, vc, _, _, hc0, hc1, hc2, h3⟩ := hp.at
  obtain ⟨ao, capo, rfl, _, _⟩ := h3.o.shape
  obtain ⟨ap, capp, rfl, _, _⟩ := Sl.shape h3.p
  obtain ⟨ac, capc, rfl, _, _⟩ := Sl.shape h3.c
  have hcon := isConsistent_ok Q w (.agg #[.slice ao Q.orders.length capo, .slice ap Q.powers.length capp, .slice ac Q.conj.length capc]) Sp ⟨_, _, _, rfl, h3⟩
  rw [icons_eq] at hcon
  go_enter Tryz.func62, Tryz.ntmps62
  go_wp2_with fail
  refine Calls.mono hcon ?_
  rintro e1 w1 ⟨v, rfl, hg1, rfl⟩
  clear hcon
  cases hq : rconsB Q with
  | false =>
    have HQ := Lib.hid hq; clear hq
    go_wp2
    go_ret
    exact ⟨_, rfl, hg1, false, rfl, by simp only [Bool.false_eq_true, false_iff]; rintro ⟨h, _⟩; rw [HQ.out] at h; cases h⟩
  | true =>
    have G := grp_of_r hq
    have hn6 := G.v.n6
    have HQ := Lib.hid hq; clear hq hc0 hc1 hc2
    go_wp2
    go_loopw [14] (fun jv wr => ∃ j : Nat, jv = .int .i64 j ∧ j ≤ L.length ∧ Ext w wr ∧ Hid (∀ l, l < j → Vec Q.orders (gt L l))) (fun jv _ => L.length - (intOf jv).toNat)
    case atStart => exact ⟨0, rfl, by omega, hg1, Lib.hid (fun j h => by omega)⟩
    case round =>
      obtain ⟨j, rfl, hj, hg, hV⟩ := hrel
      by_cases hjl : j < L.length
      · have hjl' : (j : Int) < L.length := by omega
        obtain ⟨b3, off3, a3, cap3, rfl, _, _, hc3, hr3⟩ := Rows2.at (Rows2.ext hl hg) j hjl
        have hex := isExponents_ok wr _ _ Q (gt L j) Sp Sl' (hp.ext hg) hr3 (fun i hi => by have := G.v.ord7 i hi; omega)
        cases hb : expB Q.orders (gt L j) with
        | true =>
          rw [hb] at hex
          have HB := Lib.hid (expB_vec.1 hb); clear hb
          go_wp2_with fail
          refine Calls.mono hex ?_
          rintro eE wE ⟨rfl, rfl⟩
          clear hex
          go_wp2
          go_roundw
          case rel => exact ⟨j + 1, by go_num, by omega, hg, Lib.hid (fun l hl => by
            rcases Nat.lt_succ_iff_lt_or_eq.1 hl with h | h
            · exact hV.out l h
            · rw [h]; exact HB.out)⟩
          case measure => simp [intOf]; omega
        | false =>
          rw [hb] at hex
          have hno : ¬ ∀ x ∈ L, Vec Q.orders x := fun h => by
            have := expB_vec.2 (h _ (gtMem hjl))
            rw [hb] at this; cases this
          have HB := Lib.hid hno; clear hb hno
          go_wp2_with fail
          refine Calls.mono hex ?_
          rintro eE wE ⟨rfl, rfl⟩
          clear hex
          go_wp2
          go_ret
          exact ⟨_, rfl, hg, false, rfl, by simp only [Bool.false_eq_true, false_iff]; rintro ⟨_, h⟩; exact HB.out h⟩
      · have hke : j = L.length := by omega
        subst hke
        go_wp2
        go_ret
        exact ⟨_, rfl, hg, true, rfl, by
          simp only [true_iff]
          refine ⟨HQ.out, fun x hx => ?_⟩
          obtain ⟨l, hl, rfl⟩ := List.getElem_of_mem hx
          rw [← gt_eq L l hl]; exact hV.out l hl⟩

end Go.Proofs.YtoakmefajbbggaaGreat
namespace Go.Proofs.YtoakmefajbbggaaGreat
open Go.RowKit

theorem rowsE1 {w : World} {v : Value} {l : List Int} {S : Nat → Prop} (h : Ints S w v l) : Rows2 Any (w.alloc (.cells #[v] 24)) (.slice (some ⟨w.heap.size, 0, none⟩) 1 1) [l] := by
  have hg : Ext w (w.alloc (.cells #[v] 24)) := World.grownBy_alloc _ _ _
  refine ⟨_, 1, rfl, ⟨by simp, by simp, fun h => by cases h⟩, fun i hi => ?_⟩
  obtain rfl : i = 0 := by simp at hi; omega
  exact ⟨w.heap.size, 0, v, rfl, trivial, by simp, by rw [World.cell?_alloc_at _ _ _ _ rfl]; rfl, Ints.sub (Ints.ext h hg) (fun _ _ _ => trivial)⟩
end Go.Proofs.YtoakmefajbbggaaGreat
namespace Go.Proofs.YtoakmefajbbggaaGreat
section
open Go.Proofs Go.Shelf Go.RowKit Go.Lib Go.Sort
def Tryz.reverseInts_ren : Go.Shelf.Ren := ⟨fun | 35 => 225 | n => n, fun | 22 => 24 | 23 => 2 | 3 => 3 | 4 => 4 | 0 => 0 | n => n, fun | n => n⟩
theorem Tryz.reverseInts : Go.Proofs.SlLaysE.n35 Tryz.prog Tryz.reverseInts_ren := {
  mixed := by kernel_rfl
  f35 := ⟨Tryz.f225.name, by decide, Tryz.func225.trans (congrArg some (by kernel_rfl))⟩
  t0 := Tryz.underlying0
  a0 := Tryz.isAgg0
  z0 := Tryz.sizeOf0
  v0 := Tryz.zeroValue0
  t3 := Tryz.underlying3
  a3 := Tryz.isAgg3
  z3 := Tryz.sizeOf3
  v3 := Tryz.zeroValue3
  t4 := Tryz.underlying4
  a4 := Tryz.isAgg4
  z4 := Tryz.sizeOf4
  v4 := Tryz.zeroValue4
  t22 := Tryz.underlying24
  a22 := Tryz.isAgg24
  z22 := Tryz.sizeOf24
  v22 := Tryz.zeroValue24
  a23 := Tryz.isAgg2
  z23 := Tryz.sizeOf2 }

theorem reverseI_ok (w : World) (base : Nat) (v : Value) (l : List Int) (h : Own base w v l) (hl : l.length ≤ 9223372036854775807) :
    Calls Tryz.prog 225 #[v] w fun e w' => e = .returned (.tuple #[]) ∧ Own base w' v l.reverse ∧ w.grownBy w' v.ownBlock := by
  obtain ⟨h0, h1 | ⟨g, cap, cur, hv, hbase, hb, hn, hcap, hsz, ht⟩⟩ := id h
  · obtain ⟨rfl, hn⟩ := h1
    have hnil : l = [] := List.eq_nil_of_length_eq_zero hn
    subst hnil
    have hc := AnyE.slices_Reverse_empty Tryz.reverseInts none 0 w
    change Calls Tryz.prog 225 _ _ _ at hc
    refine hc.mono ?_
    rintro e w' ⟨rfl, rfl⟩
    exact ⟨rfl, h, grown_refl _ _⟩
  · subst hv
    have ht' : cur.toList.take l.length = l.map (Value.int .i64) := by rw [Nat.mul_one] at ht; exact ht
    have hc := AnyE.slices_Reverse Tryz.reverseInts (Value.int .i64) (fun _ => rfl) g 0 cap l w (holds_of_blockI hb ht') hl
    change Calls Tryz.prog 225 _ _ _ at hc
    refine hc.mono ?_
    rintro e w' ⟨rfl, n, rfl⟩
    have o := ownsRow_sortedI (w := w) (n := n) (os := #[]) (ss := l) (ts := l.reverse) (by simp) hbase hb hn hcap hsz
    have gr := grownBy_sortedI (w := w) (g := g) (n := n) (os := #[]) l.reverse.toArray
    rw [grow_empty] at o gr
    refine ⟨rfl, ?_, gr⟩
    show World.ownsRow _ _ _ _ _ _ _
    rw [List.length_reverse]
    exact o
end
open Go.RowKit

set_option maxHeartbeats 1000000 in
theorem invertWord_ok (w : World) (v : Value) (l : List Int) (S : Nat → Prop) (hv : Ints S w v l) (hn : l.length ≤ 1000) (hb : ∀ i, i < l.length → -1000 ≤ gt l i ∧ gt l i ≤ 1000) :
    Calls Tryz.prog 172 #[v] w (Ret w fun w' r => Own w.heap.size w' r (invWord l)) := by
  obtain ⟨a, cap, rfl, _, _⟩ := hv.shape
  have HB := Lib.hid hb; clear hb
  go_enter Tryz.func172, Tryz.ntmps172
  go_wp2
  go_loopw [3, 8] (fun ov iv wr => ∃ (i : Nat) (v3 : Value), v3 = ov ∧ iv = .int .i64 i ∧ i ≤ l.length ∧ Ext w wr ∧ Own w.heap.size wr v3 ((l.take i).map (fun x => -x))) (fun _ iv _ => l.length - (intOf iv).toNat)
  case atStart => exact ⟨0, _, rfl, rfl, by omega, Ext.refl _, World.ownsRow_nil _ _ _ _⟩
  case round =>
    obtain ⟨i, v3, rfl, rfl, hi, hg, hO⟩ := hrel
    obtain ⟨m, hm⟩ : ∃ m, m = (l.take i).map (fun x => -x) := ⟨_, rfl⟩
    have hml : m.length = i := by rw [hm, List.length_map, List.length_take]; omega
    rw [← hm] at hO
    by_cases hlt : i < l.length
    · have hlt' : (i : Int) < l.length := by omega
      obtain ⟨b, off, rfl, _, _, hc⟩ := Ints.at (hv.ext hg) i hlt
      have hx0 := HB.out i hlt
      have e1 : IntKind.i64.wrap (-(gt l i)) = -(gt l i) := IntWalk.i64_in _ (by omega)
      have hnx : (l.take (i + 1)).map (fun x => -x) = m ++ [-(gt l i)] := by
        rw [hm, List.take_add_one, List.map_append, List.getElem?_eq_getElem hlt]; simp [gt_eq l i hlt]
      have HM := Lib.hid (And.intro hml hnx); clear hml hnx hm
      go_wp2_with (first | (at_builtin; refine wp_app_ints rfl _ _ rfl w.heap.size v3 _ rfl (hO.ext0 (World.grownBy_alloc _ _ _)) _ _ rfl Any (ints_lit wr _) (by have := HM.out.1; simp only [List.length_cons, List.length_nil]; omega) (by have := hg.size; simp; omega) ?_; intro v5 w5 hO5 hg5 _) | fail)
      have hg5' : wr.grownBy w5 v3.ownBlock := grown_trans (grown_of_ext _ (World.grownBy_alloc _ _ _)) hg5
      have hge : Ext w w5 := grown_own hg hg5' (fun b hb hlt => by have := (hO.lt b hb).1; omega)
      clear hO hg5 hg5' hc e1
      go_roundw
      case rel => exact ⟨i + 1, v5, rfl, by go_num, by omega, hge, by rw [HM.out.2]; exact hO5⟩
      case measure => simp [intOf]; omega
    · have hie : i = l.length := by omega
      subst hie
      have hml2 : m.length ≤ 9223372036854775807 := by omega
      have hfin : m.reverse = invWord l := by rw [hm, List.take_length]; rfl
      have HM := Lib.hid (And.intro hfin hml2); clear hml hm hfin hml2
      go_wp2_with fail
      refine Calls.mono (reverseI_ok wr w.heap.size v3 m hO HM.out.2) ?_
      rintro e5 w5 ⟨rfl, hO5, hg5⟩
      have hge : Ext w w5 := grown_own hg hg5 (fun b hb hlt => by have := (hO.lt b hb).1; omega)
      rw [HM.out.1] at hO5
      clear hO hg5
      go_wp2
      go_ret
      exact ⟨_, rfl, hge, hO5⟩

end Go.Proofs.YtoakmefajbbggaaGreat
namespace Go.Proofs.YtoakmefajbbggaaGreat
section
open Go.Proofs Go.Shelf Go.RowKit Go.Lib
def Tryz.bitsMul_ren : Go.Shelf.Ren := ⟨fun | 212 => 224 | 263 => 268 | 264 => 269 | n => n, fun | 46 => 90 | 51 => 239 | 146 => 250 | 53 => 40 | 148 => 252 | n => n, fun | n => n⟩
theorem Tryz.bitsMul : Go.Proofs.Lays.n212 Tryz.prog Tryz.bitsMul_ren := {
  mixed := by kernel_rfl
  f212 := Tryz.func224.trans (congrArg some (by kernel_rfl))
  f263 := Tryz.func268.trans (congrArg some (by kernel_rfl))
  f264 := Tryz.func269.trans (congrArg some (by kernel_rfl))
  t46 := Tryz.underlying90
  a46 := Tryz.isAgg90
  z46 := Tryz.sizeOf90
  v46 := Tryz.zeroValue90
  t51 := Tryz.underlying239
  a51 := Tryz.isAgg239
  z51 := Tryz.sizeOf239
  v51 := Tryz.zeroValue239
  t53 := Tryz.underlying40
  a53 := Tryz.isAgg40
  z53 := Tryz.sizeOf40
  v53 := Tryz.zeroValue40
  t146 := Tryz.underlying250
  a146 := Tryz.isAgg250
  z146 := Tryz.sizeOf250
  v146 := Tryz.zeroValue250
  t148 := Tryz.underlying252
  a148 := Tryz.isAgg252
  z148 := Tryz.sizeOf252
  v148 := Tryz.zeroValue252 }

theorem bitsMul_ok (c : Nat) (w : World) (hc : c ≤ 1000) : Calls Tryz.prog 224 #[.int .u64 1, .int .u64 (c : Int)] w fun e w' => e = .returned (.tuple #[.int .u64 0, .int .u64 (c : Int)]) ∧ w' = w := by
  have h := Any.bits_Mul Tryz.bitsMul 1 c (by omega) (by omega) w
  change Calls Tryz.prog 224 _ _ _ at h
  refine h.mono ?_
  rintro e w' ⟨rfl, rfl⟩
  rw [Nat.one_mul, Nat.div_eq_of_lt (by omega), Nat.mod_eq_of_lt (by omega)]
  exact ⟨rfl, rfl⟩
end
open Go.RowKit

/-- a row of c cells, the first n of which hold y -/
def repC (y : Int) (c n : Nat) : List Value := List.replicate n (.int .i64 y) ++ List.replicate (c - n) (.int .i64 0)
theorem repC_len {y : Int} {c n : Nat} (h : n ≤ c) : (repC y c n).length = c := by unfold repC; simp; omega
theorem repC_splice {y : Int} {c n m : Nat} (h : n + m ≤ c) : splice (repC y c n) n (List.replicate m (.int .i64 y)) = repC y c (n + m) := by
  unfold splice repC
  rw [List.take_append_of_le_length (by simp), List.take_of_length_le (by simp), List.drop_append, List.length_replicate, List.length_replicate, List.drop_replicate, List.drop_replicate, ← List.append_assoc, ← List.append_assoc]
  rw [show n - (n + m) = 0 by omega, show c - n - (n + m - n) = c - (n + m) by omega]
  simp [List.replicate_append_replicate]

theorem ext_of_below {w w' : World} (h : Below w.heap.size w w') : Ext w w' := ⟨h.os, h.tape, h.output, h.size, fun k hk _ => h.block k hk⟩

theorem srcOne {w : World} {b off : Nat} {u : Value} (h : w.cell? ⟨b, off, none⟩ = some u) : ∀ j v, ([u] : List Value)[j]? = some v → w.cell? ((⟨b, off, none⟩ : Addr).add j) = some v := fun j v hj => by
  have h0 : j = 0 := by
    have := (List.getElem?_eq_some_iff.1 hj).1
    simpa using this
  subst h0
  have : u = v := by simpa using hj
  subst this
  simpa [Addr.add] using h

theorem srcRep {w : World} {H c n m : Nat} {y : Int} {T : Nat} (h : w.heap[H]? = some (.cells (repC y c n).toArray T (0, 0))) (hm : m ≤ n) :
    ∀ j v, (List.replicate m (Value.int .i64 y))[j]? = some v → w.cell? ((⟨H, 0, none⟩ : Addr).add j) = some v := fun j v hj => by
  have hjm : j < m := by
    have := (List.getElem?_eq_some_iff.1 hj).1
    simpa using this
  have : Value.int .i64 y = v := by
    rw [List.getElem?_eq_getElem (by simpa using hjm)] at hj
    simpa using hj
  subst this
  have e : (repC y c n)[j]? = some (.int .i64 y) := by
    unfold repC
    rw [List.getElem?_append_left (by simp; omega), List.getElem?_eq_getElem (by simp; omega)]
    simp
  have e2 : w.cell? ⟨H, 0 + j, none⟩ = some (.int .i64 y) := by
    simp only [World.cell?, h, Nat.zero_add, Option.isSome_none, Bool.false_eq_true, if_false]
    rw [← Array.getElem?_toList]; exact e
  unfold Addr.add
  split
  · rename_i hj0; subst hj0; exact e2
  · exact e2

theorem rowOf {base H c : Nat} {w : World} (h : Own base w (.slice (some ⟨H, 0, none⟩) c c) (List.replicate c 0)) : ∃ cur : Array Value, w.heap[H]? = some (.cells cur 2 (0, 0)) ∧ ∀ y, cur = (repC y c 0).toArray := by
  obtain ⟨_, h | ⟨g, cp, cur, hv, _, hb, _, _, hsz, ht⟩⟩ := h
  · exact absurd h.1 (by simp)
  simp only [Value.slice.injEq, Option.some.injEq, Addr.mk.injEq] at hv
  obtain ⟨⟨rfl, _⟩, _, rfl⟩ := hv
  refine ⟨cur, hb, fun y => ?_⟩
  apply Array.ext'
  have hl : cur.toList.length = c := by simpa using hsz
  rw [List.length_replicate, List.take_of_length_le (by omega)] at ht
  rw [ht]
  simp [repC]

set_option maxRecDepth 100000 in
set_option maxHeartbeats 400000 in
theorem repeatI_ok (w : World) (v : Value) (y : Int) (c : Nat) (S : Nat → Prop) (hv : Ints S w v [y]) (hc : 1 ≤ c ∧ c ≤ 1000) :
    Calls Tryz.prog 171 #[v, .int .i64 (c : Int)] w (Ret w fun w' r => Own w.heap.size w' r (List.replicate c y)) := by
  obtain ⟨a, cap, rfl, hcap, _⟩ := hv.shape
  obtain ⟨b, off, rfl, _, _, hcell⟩ := Ints.at hv 0 (by simp)
  have hcap : 1 ≤ cap := hcap
  have hy : gt [y] 0 = y := rfl
  rw [hy, Nat.add_zero] at hcell
  have hl1 : [y].length = 1 := rfl
  rw [hl1]
  go_enter Tryz.func171, Tryz.ntmps171
  go_wp2_with fail
  refine Calls.mono (bitsMul_ok c w hc.2) ?_
  rintro e1 w1 ⟨rfl, rfl⟩
  go_wp2_with (first | (at_make; refine wp_make_ints rfl _ _ rfl w1.heap.size c w1.heap.size rfl (c : Int) rfl rfl rfl (by omega) (Nat.le_refl _) ?_; intro w2 hO2 hg2 hlt2; obtain ⟨cur, hb2, hcur⟩ := rowOf hO2; rw [hcur y] at hb2; have hcl := hg2.cell hcell (by simp); clear hO2 hcur) | (refine wpList_copy_splice rfl _ _ _ _ rfl 2 (by kernel_rfl) (by kernel_rfl) (some ⟨w1.heap.size, 0, none⟩) (some ⟨b, off, none⟩) c c 1 cap rfl rfl w1.heap.size 0 (repC y c 0) 2 hb2 [.int .i64 y] (Nat.min_eq_left hc.1).symm (fun _ => ⟨rfl, _, rfl, srcOne hcl⟩) (by rw [repC_len (by omega)]; simp; omega) (by simp; rfl) w1.heap.size w1 hg2.below (Nat.le_refl _) ?_; intro w3 hb3 hB3) | fail)
  have hb30 : Hid (w3.heap[w1.heap.size]? = some (.cells (repC y c 1).toArray 2 (0, 0))) := by
    have := hb3
    rw [show ([.int .i64 y] : List Value) = List.replicate 1 (.int .i64 y) from rfl, repC_splice (by omega)] at this
    exact this
  have hE3 : Ext w1 w3 := ext_of_below hB3
  clear hb3 hB3 hb2 hcl
  go_wp2
  go_loopw [8] (fun nv wr => ∃ n : Nat, nv = .int .i64 n ∧ 1 ≤ n ∧ n ≤ c ∧ Ext w1 wr ∧ Hid (wr.heap[w1.heap.size]? = some (.cells (repC y c n).toArray 2 (0, 0)))) (fun nv _ => c - (intOf nv).toNat)
  case atStart => exact ⟨1, rfl, by omega, by omega, hE3, hb30⟩
  case round =>
    clear hE3 hb30
    obtain ⟨n, rfl, h1, hn, hE, hb⟩ := hrel
    by_cases hlt : n < c
    · have hlt' : (n : Int) < c := by omega
      obtain ⟨m, hm⟩ : ∃ m, m = Nat.min n (c - n) := ⟨_, rfl⟩
      have hm1 : m ≤ n ∧ m ≤ c - n ∧ 1 ≤ m := ⟨by rw [hm]; exact Nat.min_le_left _ _, by rw [hm]; exact Nat.min_le_right _ _, by rw [hm]; exact Nat.le_min.2 ⟨h1, by omega⟩⟩
      have hcs : (List.replicate m (Value.int .i64 y)).length = Nat.min n (c - n) := by rw [List.length_replicate, hm]
      have hE2 : Below w1.heap.size w1 wr.drew := Ext.below (grown_trans hE (grown_drew wr none))
      have hne : ¬ c = n := by omega
      have hbd : wr.drew.heap[w1.heap.size]? = some (.cells (repC y c n).toArray 2 (0, 0)) := hb.out
      have HM := Lib.hid (And.intro hcs (And.intro hE2 (And.intro hne hbd))); clear hm hcs hE2 hne hbd
      go_wp2
      go_region_law (refine step_copy_splice rfl _ _ _ _ rfl 2 (by kernel_rfl) (by kernel_rfl) (if c = n then some ⟨w1.heap.size, 0, none⟩ else some ⟨w1.heap.size, n, none⟩) (some ⟨w1.heap.size, 0, none⟩) (c - n) (c - n) n c (by kernel_rfl) (by kernel_rfl) w1.heap.size n (repC y c n) 2 HM.out.2.2.2 (List.replicate m (.int .i64 y)) HM.out.1 (fun _ => ⟨if_neg HM.out.2.2.1, _, rfl, srcRep HM.out.2.2.2 hm1.1⟩) (by rw [repC_len hn, List.length_replicate]; omega) (fun v hv => by rw [(List.mem_replicate.1 hv).2]; rfl) w1.heap.size w1 HM.out.2.1 (Nat.le_refl _) ?_; intro w4 hb4 hB4)
      have hb5 : Hid (w4.heap[w1.heap.size]? = some (.cells (repC y c (n + m)).toArray 2 (0, 0))) := by
        have := hb4
        rw [repC_splice (by omega)] at this
        exact this
      have hE4 := ext_of_below hB4
      have hml : (List.replicate m (Value.int .i64 y)).length = m := List.length_replicate
      have hwm : IntKind.i64.wrap ((n : Int) + m) = n + m := IntWalk.i64_in _ (by omega)
      clear hb4 hB4 hE hb
      go_wp2
      go_roundw
      case rel => exact ⟨n + m, by omega, by omega, by omega, hb5⟩
      case measure => simp [intOf]; omega
    · have hne : n = c := by omega
      subst hne
      have hO : Own w1.heap.size wr (.slice (some ⟨w1.heap.size, 0, none⟩) n n) (List.replicate n y) := by
        refine ⟨by simp, .inr ⟨w1.heap.size, n, _, by rw [List.length_replicate], Nat.le_refl _, hb.out, by simp, by unfold maxLen; omega, by rw [List.size_toArray, repC_len (Nat.le_refl _)]; omega, by simp [repC]⟩⟩
      go_wp2
      go_ret
      exact ⟨_, rfl, hE, hO⟩

end Go.Proofs.YtoakmefajbbggaaGreat
namespace Go.Proofs.YtoakmefajbbggaaGreat
open Go.RowKit

theorem vec_word {P : Pr} (hP : Valid P) {e : List Int} (h : Vec P.orders e) : (∀ i, i < e.length → 0 ≤ gt e i ∧ gt e i ≤ 7) ∧ (nWord e e.length = nWord e P.orders.length) ∧ (nWord e P.orders.length).length ≤ 42 ∧
    (∀ i, i < (nWord e P.orders.length).length → -1000 ≤ gt (nWord e P.orders.length) i ∧ gt (nWord e P.orders.length) i ≤ 1000) := by
  have hn6 := hP.n6
  have h1 : ∀ i, i < e.length → 0 ≤ gt e i ∧ gt e i ≤ 7 := fun i hi => by
    have h2 := h.2 i (by rw [← h.1]; exact hi)
    have h3 := hP.ord7 i (by rw [← h.1]; exact hi)
    omega
  refine ⟨h1, by rw [h.1], ?_, fun i hi => ?_⟩
  · have := nWord_len (e := e) (fun i => by
      by_cases hi : i < e.length
      · exact (h1 i hi).2
      · rw [gt_big (by omega)]; decide) P.orders.length
    omega
  · have := WordN.nWord e P.orders.length (Nat.le_refl _) _ (gtMem hi)
    omega

theorem relPow_len {P : Pr} (hP : Valid P) {i : Nat} (hi : i < P.orders.length) : (relPow P i).length ≤ 50 := by
  have h1 := (vec_word hP (hP.pv i hi).1).2.2.1
  have h2 := hP.ord7 i hi
  unfold relPow
  rw [List.length_append, List.length_replicate, invWord_len]; omega
theorem relCon_len {P : Pr} (hP : Valid P) {i k : Nat} (hi : i < P.orders.length) (hk : k < P.orders.length - 1 - i) : (relCon P i k).length ≤ 50 := by
  have h1 := (vec_word hP ((hP.cv i hi).2 k hk).1).2.2.1
  unfold relCon
  rw [List.length_append, invWord_len]; simp; omega
theorem relTo_len {P : Pr} (hP : Valid P) : ∀ i, i ≤ P.orders.length → (relTo P i).length ≤ P.orders.length + 6 * i
  | 0, _ => by rw [relTo, relPs_len]; omega
  | i + 1, h => by
    have h1 := relTo_len hP i (by omega)
    have h2 := (hP.cv i (by omega)).1
    have := hP.n6
    rw [relTo, List.length_append, relCs_len]; omega

set_option maxRecDepth 100000 in
set_option maxHeartbeats 4000000 in
theorem relators_ok (P : Pr) (hP : Valid P) (w : World) (pv : Value) (Sp : Nat → Prop) (hpv : PresV Sp w pv P) :
    Calls Tryz.prog 94 #[pv] w (Ret w fun w' v => ∃ a n c, v = .tuple #[.slice a n c, .int .i64 0] ∧ RowsO w.heap.size w' (.slice a n c) (relsP P)) := by
  have hn6 := hP.n6
  have hpl : P.powers.length ≤ P.orders.length ∧ P.orders.length ≤ P.powers.length := by have := hP.pl; omega
  have hcl : P.conj.length ≤ P.orders.length ∧ P.orders.length ≤ P.conj.length := by have := hP.cl; omega
  obtain ⟨vo, vp, vc, rfl, h3⟩ := hpv
  obtain ⟨ao, capo, rfl, _, _⟩ := h3.o.shape
  obtain ⟨ap, capp, rfl, _, _⟩ := Sl.shape h3.p
  obtain ⟨ac, capc, rfl, _, _⟩ := Sl.shape h3.c
  have hg0 : Ext w (w.alloc (.cells #[.slice ao P.orders.length capo, .slice ap P.powers.length capp, .slice ac P.conj.length capc] 28)) := World.grownBy_alloc _ _ _
  have hs0 : (w.alloc (.cells #[.slice ao P.orders.length capo, .slice ap P.powers.length capp, .slice ac P.conj.length capc] 28)).heap.size = w.heap.size + 1 := by simp
  have h30 := h3.ext hg0
  obtain ⟨_, hco, hcp, hcc, _⟩ := Box3.made w 28 (.slice ao P.orders.length capo) (.slice ap P.powers.length capp) (.slice ac P.conj.length capc)
  have hpr := isPresentation_ok (w.alloc (.cells #[.slice ao P.orders.length capo, .slice ap P.powers.length capp, .slice ac P.conj.length capc] 28)) (.agg #[.slice ao P.orders.length capo, .slice ap P.powers.length capp, .slice ac P.conj.length capc]) P Sp ⟨_, _, _, rfl, h30⟩
  rw [validB_true hP] at hpr
  have hoi := h30.o
  have hpi := h30.p
  have hci := h30.c
  have HO := Lib.hid hP.ord7
  go_enter Tryz.func94, Tryz.ntmps94
  go_wp2_with fail
  refine Calls.mono hpr ?_
  rintro e1 w1 ⟨v1, rfl, hg1, rfl⟩
  clear hpr
  generalize hw0 : w.alloc (.cells #[.slice ao P.orders.length capo, .slice ap P.powers.length capp, .slice ac P.conj.length capc] 28) = w0 at *
  clear hw0
  have hc0 := hg1.cell hco (by simp)
  have HS := Lib.hid hs0; clear hs0
  have hs1 : w.heap.size ≤ w1.heap.size := by have := HS.out; have := hg1.size; omega
  go_wp2
  clear hc0
  go_loopw [4, 18] (fun ov iv wr => ∃ (i : Nat) (v4 : Value), v4 = ov ∧ iv = .int .i64 i ∧ i ≤ P.orders.length ∧ Ext w1 wr ∧ RowsO w1.heap.size wr v4 (relPs P i)) (fun _ iv _ => P.orders.length - (intOf iv).toNat)
  case atStart => exact ⟨0, _, rfl, rfl, by omega, Ext.refl _, SlO.nil _ _ _ _⟩
  case round =>
    obtain ⟨i, v4, rfl, rfl, hi, hg, hO⟩ := hrel
    have hgw := grown_trans hg1 hg
    have hrl := relPs_len P i
    obtain ⟨R, hR⟩ : ∃ R, R = relPs P i := ⟨_, rfl⟩
    rw [← hR] at hO hrl
    obtain ⟨a4, cap4, hv4, _, _⟩ := SlD.shape (hO.toD (by omega))
    subst hv4
    have hRl := Lib.hid hrl; clear hrl
    by_cases hlt : i < P.orders.length
    · have hlt' : (i : Int) < P.orders.length := by omega
      obtain ⟨b, off, rfl, _, _, hc⟩ := Ints.at (hoi.ext hgw) i hlt
      obtain ⟨x, hx⟩ : ∃ x, x = (gt P.orders i).toNat := ⟨_, rfl⟩
      have hx0 := HO.out i hlt
      have hxe : gt P.orders i = (x : Int) := by omega
      have hx7 : 1 ≤ x ∧ x ≤ 1000 := by omega
      rw [hxe] at hc
      have hrel : relPow P i = List.replicate x ((i : Int) + 1) ++ invWord (nWord (gt P.powers i) P.orders.length) := by rw [hx]; rfl
      have hrl2 := relPow_len hP hlt
      have hvw := vec_word hP (hP.pv i hlt).1
      have hnx : relPs P (i + 1) = R ++ [relPow P i] := by rw [hR]; rfl
      have HX := Lib.hid (And.intro hrel (And.intro hrl2 (And.intro hvw hnx))); clear hrel hrl2 hvw hnx hx0 hx hxe hR
      have hi1 : (i : Int) < P.powers.length := by omega
      obtain ⟨bp, op, a2, cap2, rfl, _, _, hcpi, hrp⟩ := Rows2.at hpi i (by omega)
      have e1 : ∀ w', Ext w1 w' → w'.cell? ⟨w.heap.size, 1, none⟩ = some (.slice (some ⟨bp, op, none⟩) P.powers.length capp) := fun w' h => (grown_trans hg1 h).cell hcp (by simp)
      have e2 : ∀ w', Ext w1 w' → w'.cell? ⟨bp, op + i, none⟩ = some (.slice a2 (gt P.powers i).length cap2) := fun w' h => (grown_trans hg1 h).cell hcpi (by simp)
      have hrr := Ints.ext hrp hgw
      have hwi : IntKind.i64.wrap ((i : Int) + 1) = (i : Int) + 1 := IntWalk.i64_in _ (by omega)
      go_wp2
      have hgl : Ext wr (wr.alloc (.cells #[.int .i64 ((i : Int) + 1)] 2)).drew := grown_trans (World.grownBy_alloc _ _ _) (grown_drew _ _)
      have hlit := Ints.ext (ints_lit wr ((i : Int) + 1)) (grown_drew (wr.alloc (.cells #[.int .i64 ((i : Int) + 1)] 2)) none)
      go_region_held3 (fun w' => Ext w1 w') (first | exact grown_trans hg (grown_drew _ _) | exact grown_trans hg (by assumption) | exact hgw5 | exact grown_trans hg (grown_trans hgwL (World.grownBy_alloc _ _ _)))
        (first
          | (go_at_call 171; refine Calls.mono (Calls.rel2 (w0 := wr) (by assumption) (repeatI_ok _ _ ((i : Int) + 1) x Any (by first | exact hlit | exact Ints.ext hlit (by assumption) | exact Ints.ext hlit (grown_trans hgN2 hgI2)) hx7)) ?_; rintro eR wR ⟨vR, rfl, hgR, hgR2, hsR, hOR⟩; obtain ⟨gR, cR, hvR, _, _⟩ := hOR.form (by rw [List.length_replicate]; omega); rw [List.length_replicate] at hvR; subst hvR)
          | (go_at_call 173; refine Calls.mono (Calls.rel2 (w0 := wr) (by assumption) (normalWord_ok _ _ (gt P.powers i) Any (Ints.sub (Ints.ext hrr (by assumption)) (fun _ _ _ => trivial)) (by have := HX.out.2.2.1.1; rw [(hP.pv i hlt).1.1]; exact hn6) HX.out.2.2.1.1)) ?_; rintro eN wN ⟨vN, rfl, hgN, hgN2, hsN, hON⟩; rw [HX.out.2.2.1.2.1] at hON; have hNi := hON.ints (by have := HX.out.2.2.1.2.2.1; omega))
          | (go_at_call 172; refine Calls.mono (Calls.rel2 (w0 := wr) (by assumption) (invertWord_ok _ _ (nWord (gt P.powers i) P.orders.length) Any (by first | exact Ints.sub hNi (fun _ _ _ => trivial) | exact Ints.sub (Ints.ext hNi (by assumption)) (fun _ _ _ => trivial)) (by have := HX.out.2.2.1.2.2.1; omega) HX.out.2.2.1.2.2.2)) ?_; rintro eI wI ⟨vI, rfl, hgI, hgI2, hsI, hOI⟩; have hIi := hOI.ints (by rw [invWord_len]; have := HX.out.2.2.1.2.2.1; omega))
          | (refine step_app_list rfl _ _ rfl wr.heap.size gR cR x (List.replicate x ((i : Int) + 1)) (invWord (nWord (gt P.powers i) P.orders.length)) (List.length_replicate ..) rfl (by first | exact hOR.weak hsR | exact (hOR.weak hsR).ext0 (by assumption) | exact (hOR.weak hsR).ext0 (grown_trans hgN2 hgI2)) _ Any (by first | exact Ints.sub hIi (fun _ _ _ => trivial) | exact Ints.sub (Ints.ext hIi (by assumption)) (fun _ _ _ => trivial)) rfl (by rw [List.length_replicate, invWord_len]; have := HX.out.2.2.1.2.2.1; omega) (by first | exact hgI.size | exact hgR.size) ?_
             intro vL wL hOL hgL
             rw [← HX.out.1] at hOL
             have hYO : OwnIn (From wr.heap.size) wL vL (relPow P i) := OwnIn.of hOL (by have := HX.out.2.1; omega) (fun j h1 _ => h1)
             have hgwL : Ext wr wL := by
               have hgb : wr.heap.size ≤ gR := by have := (hOR.lt gR rfl).1; omega
               first | exact grown_own hgI hgL (fun j hj hlt => by cases hj; omega) | exact grown_own hgR hgL (fun j hj hlt => by cases hj; omega)
             obtain ⟨aL, cL, hvL, _, _⟩ := hYO.ints.shape
             subst hvL)
          | (refine step_app_row rfl _ _ rfl w1.heap.size wr wL _ _ R (relPow P i) rfl hO hgwL hYO rfl rfl (by have := hRl.out; omega) hg.size ?_; intro v5 w5 hO5 hg5 hg5b; have hgw5 : Ext w1 w5 := grown_own hg hg5 (fun j hj hlt => by have := (hO.lt j hj).1; omega)))
      rw [← HX.out.2.2.2] at hO5
      clear e1 e2 hgl hlit hO hc
      go_wp2
      go_roundw
      case rel => exact ⟨i + 1, v5, rfl, by go_num, by omega, hgw5, hO5⟩
      case measure => simp [intOf]; omega
    · have hie : i = P.orders.length := by omega
      subst hie
      have hOT : RowsO w1.heap.size wr (.slice a4 R.length cap4) (relTo P 0) := by rw [hR] at hO ⊢; exact hO
      have hc0 := hgw.cell hco (by simp)
      clear hO hR
      go_wp2
      clear hc0
      go_loopw [4, 43] (fun ov iv wr => ∃ (i : Nat) (v4 : Value), v4 = ov ∧ iv = .int .i64 i ∧ i ≤ P.orders.length ∧ Ext w1 wr ∧ RowsO w1.heap.size wr v4 (relTo P i)) (fun _ iv _ => P.orders.length - (intOf iv).toNat)
      case atStart => exact ⟨0, _, rfl, rfl, by omega, hg, hOT⟩
      case round =>
        clear hOT hg hgw
        obtain ⟨i, v4, rfl, rfl, hi, hg, hO⟩ := hrel
        have hgw := grown_trans hg1 hg
        have hrl := relTo_len hP i hi
        by_cases hlt : i < P.orders.length
        · have hlt' : (i : Int) < P.orders.length := by omega
          have hic : (i : Int) < P.conj.length := by omega
          have hcc' := hgw.cell hcc (by simp)
          obtain ⟨bc, oc, a2, cap2, rfl, _, _, hcc0, hrc⟩ := Rows3.at hci i (by omega)
          have hcci := hgw.cell hcc0 (by simp)
          have hcv := hP.cv i hlt
          have hO0 : RowsO w1.heap.size wr v4 (relTo P i ++ relCs P i 0) := by rw [relCs, List.append_nil]; exact hO
          have HCV := Lib.hid hcv; clear hcv hO
          go_wp2
          clear hcc' hcci
          go_loopw [4, 52] (fun ov kv wr => ∃ (k : Nat) (v4 : Value), v4 = ov ∧ kv = .int .i64 k ∧ k ≤ (gt P.conj i).length ∧ Ext w1 wr ∧ RowsO w1.heap.size wr v4 (relTo P i ++ relCs P i k)) (fun _ kv _ => (gt P.conj i).length - (intOf kv).toNat)
          case atStart => exact ⟨0, _, rfl, rfl, by omega, hg, hO0⟩
          case round =>
            clear hO0
            clear hg hgw
            obtain ⟨k, v4, rfl, rfl, hk, hg, hO⟩ := hrel
            have hgw := grown_trans hg1 hg
            have hlen := HCV.out.1
            have hLL : (relTo P i ++ relCs P i k).length ≤ 100 := by rw [List.length_append, relCs_len]; omega
            obtain ⟨R, hR⟩ : ∃ R, R = relTo P i ++ relCs P i k := ⟨_, rfl⟩
            rw [← hR] at hO hLL
            obtain ⟨a4, cap4, hv4, _, _⟩ := SlD.shape (hO.toD (by omega))
            subst hv4
            by_cases hltk : k < (gt P.conj i).length
            · have hltk' : (k : Int) < (gt P.conj i).length := by omega
              obtain ⟨bk, ok, a3, cap3, rfl, _, _, hck0, hrk0⟩ := Rows2.at hrc k hltk
              have hck := hgw.cell hck0 (by simp)
              have hvk := (HCV.out.2 k (by omega)).1
              have hvw := vec_word hP hvk
              have hrl2 := relCon_len hP (k := k) hlt (by omega)
              have hik : i + k + 1 < P.orders.length := by omega
              have hnx : relTo P i ++ relCs P i (k + 1) = R ++ [relCon P i k] := by rw [hR, relCs, List.append_assoc]
              have hvl : (gt (gt P.conj i) k).length ≤ 6 := by rw [hvk.1]; exact hn6
              have HX := Lib.hid (And.intro hvw (And.intro hrl2 (And.intro hnx (And.intro hLL hvl)))); clear hvw hrl2 hnx hvk hR hlen hLL hvl
              have hw1 : IntKind.i64.wrap ((i : Int) + 1) = (i : Int) + 1 := IntWalk.i64_in _ (by omega)
              have hw2 : IntKind.i64.wrap ((i : Int) + k) = (i : Int) + k := IntWalk.i64_in _ (by omega)
              have hw3 : IntKind.i64.wrap ((i : Int) + k + 2) = (i : Int) + k + 2 := IntWalk.i64_in _ (by omega)
              have hw4 : IntKind.i64.wrap (-((i : Int) + 1)) = -((i : Int) + 1) := IntWalk.i64_in _ (by omega)
              go_wp2_with fail
              have hgl : Ext wr (wr.alloc (.cells #[.int .i64 (-((i : Int) + 1)), .int .i64 ((i : Int) + k + 2), .int .i64 ((i : Int) + 1)] 2)) := World.grownBy_alloc _ _ _
              have hOl : Own wr.heap.size (wr.alloc (.cells #[.int .i64 (-((i : Int) + 1)), .int .i64 ((i : Int) + k + 2), .int .i64 ((i : Int) + 1)] 2)) (.slice (some ⟨wr.heap.size, 0, none⟩) 3 3) [-((i : Int) + 1), (i : Int) + k + 2, (i : Int) + 1] := World.ownsRow_lit wr #[.int .i64 (-((i : Int) + 1)), .int .i64 ((i : Int) + k + 2), .int .i64 ((i : Int) + 1)] 3 (Nat.le_refl _) (by decide) rfl
              generalize hwl : wr.alloc (.cells #[.int .i64 (-((i : Int) + 1)), .int .i64 ((i : Int) + k + 2), .int .i64 ((i : Int) + 1)] 2) = wl at *
              clear hwl hw1 hw2 hw3 hw4 hck hck0
              refine Calls.mono (normalWord_ok wl _ (gt (gt P.conj i) k) Any (Ints.sub (Ints.ext hrk0 (grown_trans hgw hgl)) (fun _ _ _ => trivial)) HX.out.2.2.2.2 HX.out.1.1) ?_
              rintro eN wN ⟨vN, rfl, hgN, hON⟩
              rw [HX.out.1.2.1] at hON
              have hNi := hON.ints (by have := HX.out.1.2.2.1; omega)
              go_wp2_with fail
              refine Calls.mono (invertWord_ok wN _ (nWord (gt (gt P.conj i) k) P.orders.length) Any (Ints.sub hNi (fun _ _ _ => trivial)) (by have := HX.out.1.2.2.1; omega) HX.out.1.2.2.2) ?_
              rintro eI wI ⟨vI, rfl, hgI, hOI⟩
              have hIi := hOI.ints (by rw [invWord_len]; have := HX.out.1.2.2.1; omega)
              have hgNI := grown_trans hgN hgI
              have hOl2 := hOl.ext0 hgNI
              have hgwI := grown_trans hgl hgNI
              clear hON hNi hOI hgN hgI hOl hgl
              go_wp2_with (first | (at_builtin; refine wp_app_ints rfl _ _ rfl wr.heap.size _ _ rfl hOl2 _ _ rfl _ hIi (by rw [invWord_len]; have := HX.out.1.2.2.1; simp only [List.length_cons, List.length_nil]; omega) hgwI.size ?_; intro vL wL hOL hgL _; have hgwL : Ext wr wL := grown_own hgwI hgL (fun j hj hlt => by have := own_blk hj; omega); have hYO : OwnIn (From wr.heap.size) wL vL (relCon P i k) := OwnIn.of (l := relCon P i k) hOL (by have := HX.out.2.1; omega) (fun j h1 _ => h1); obtain ⟨aL, cL, hvL, _, _⟩ := hYO.ints.shape; subst hvL; clear hOL hOl2 hIi hgL hgwI) | (at_builtin; refine wp_app_row rfl _ _ rfl w1.heap.size wr wL _ _ R (relCon P i k) rfl hO hgwL hYO rfl rfl (by have := HX.out.2.2.2.1; omega) hg.size ?_; intro v5 w5 hO5 hg5 hg5b) | fail)
              have hgw5 : Ext w1 w5 := grown_own hg hg5 (fun j hj hlt => by have := (hO.lt j hj).1; omega)
              rw [← HX.out.2.2.1] at hO5
              clear hO hYO hg5 hg5b hgwL
              go_roundw
              case rel => exact ⟨k + 1, v5, rfl, by go_num, by omega, hgw5, hO5⟩
              case measure => simp [intOf]; omega
            · have hke : k = (gt P.conj i).length := by omega
              subst hke
              have hOn : RowsO w1.heap.size wr (.slice a4 R.length cap4) (relTo P (i + 1)) := by rw [relTo, ← hR]; exact hO
              clear hO hR hlen hLL
              go_wp2
              go_roundw
              case rel => exact ⟨i + 1, _, rfl, by go_num, by omega, hg, hOn⟩
              case measure => simp [intOf]; omega
        · have hie : i = P.orders.length := by omega
          subst hie
          have hfin : RowsO w.heap.size wr v4 (relsP P) := hO.weak (by omega)
          obtain ⟨az, capz, hvz, _, _⟩ := SlD.shape (hO.toD (by omega))
          subst hvz
          clear hO
          go_wp2
          go_ret2
          exact ⟨_, rfl, grown_trans hg0 hgw, _, _, _, rfl, hfin⟩

end Go.Proofs.YtoakmefajbbggaaGreat
namespace Go.Proofs.YtoakmefajbbggaaGreat
open Go.RowKit

set_option maxRecDepth 100000 in
set_option maxHeartbeats 2000000 in
theorem evaluate_ok (Q : Pr) (G : Grp Q) (w : World) (p wv iv : Value) (W : List Int) (Is : List (List Int)) (Sp Sw Si : Nat → Prop) (hp : PresP Sp w p Q) (hw : Ints Sw w wv W) (hi : Rows2 Si w iv Is) (hI : ∀ x ∈ Is, Vec Q.orders x)
    (hW : WordN Is.length W) (hWl : W.length ≤ 1000) (hIl : Is.length ≤ 6) :
    Calls Tryz.prog 64 #[p, wv, iv] w (Ret w fun w' v => Own w.heap.size w' v (evalTo Q Is W W.length)) := by
  have hP := G.v
  have hn6 := hP.n6
  obtain ⟨pb, po, rfl⟩ := hp.shape
  obtain ⟨ao, capo, hco, hoi⟩ := hp.ordAt
  obtain ⟨aw, capw, rfl, _, _⟩ := hw.shape
  obtain ⟨ai, capi, rfl, _, _⟩ := Sl.shape hi
  have HW := Lib.hid (And.intro hI hW); clear hI hW
  go_enter Tryz.func64, Tryz.ntmps64
  go_wp2_with (first | (at_make; refine wp_make_ints rfl _ _ rfl w.heap.size Q.orders.length w.heap.size rfl _ rfl rfl rfl (by omega) (Nat.le_refl _) ?_; intro w1 ho1 hg1 hlt1) | fail)
  clear hco
  generalize Value.slice (some ⟨w.heap.size, 0, none⟩) Q.orders.length Q.orders.length = r at *
  go_loopw [19] (fun iv wr => ∃ k : Nat, iv = .int .i64 k ∧ k ≤ W.length ∧ Ext w wr ∧ Own w.heap.size wr r (evalTo Q Is W k)) (fun iv _ => W.length - (intOf iv).toNat)
  case atStart => exact ⟨0, rfl, by omega, hg1, ho1⟩
  case round =>
    clear ho1
    obtain ⟨k, rfl, hk, hg, hO⟩ := hrel
    have hE := G.eval_vec HW.out.1 HW.out.2 k hk
    by_cases hlt : k < W.length
    · have hlt' : (k : Int) < W.length := by omega
      obtain ⟨bw, ow, rfl, _, _, hcw⟩ := Ints.at (hw.ext hg) k hlt
      obtain ⟨l, hl⟩ : ∃ l, l = gt W k := ⟨_, rfl⟩
      rw [← hl] at hcw
      have hb := HW.out.2 l (by rw [hl]; exact gtMem hlt)
      obtain ⟨E, hEd⟩ : ∃ E, E = evalTo Q Is W k := ⟨_, rfl⟩
      rw [← hEd] at hO hE
      by_cases hneg : l < 0
      · obtain ⟨t, ht⟩ : ∃ t : Nat, t = (-l - 1).toNat := ⟨_, rfl⟩
        have hti : t < Is.length := by omega
        have htl : -l = (t : Int) + 1 := by omega
        have hxV := HW.out.1 _ (gtMem hti)
        have hst : evalTo Q Is W (k + 1) = rMul Q E (rInv Q (gt Is t)) := by rw [evalTo, ← hl, if_pos hneg, ← ht, hEd]
        have hiV := G.invV hxV
        have hiE := G.iInv_eq hxV
        have htv := G.tv_eq hE hiV
        have habs := abs_ok l wr (by omega)
        rw [if_pos hneg, htl] at habs
        have hti' : (t : Int) < Is.length := by omega
        have hwr : IntKind.i64.wrap ((t : Int) + 1 - 1) = (t : Int) := by rw [show (t : Int) + 1 - 1 = t by omega]; exact IntWalk.i64_in _ (by omega)
        obtain ⟨bx, ox, a2, cap2, rfl, _, _, hcx, hrx⟩ := Rows2.at (Rows2.ext hi hg) t hti
        have HX := Lib.hid (And.intro hxV (And.intro hst (And.intro hiV (And.intro hiE (And.intro htv hE))))); clear hxV hst hiV hiE htv hE hEd hl ht htl
        go_wp2_with fail
        refine Calls.mono habs ?_
        rintro e2 w2 ⟨rfl, rfl⟩
        clear habs
        go_wp2_with fail
        refine Calls.mono (invert_ok Q hP wr _ _ (gt Is t) Sp Si (hp.ext hg) hrx HX.out.1) ?_
        rintro e3 w3 ⟨v3, rfl, hg3, hO3⟩
        rw [HX.out.2.2.2.1] at hO3
        have hOw := hO.ext0 hg3
        have hg03 := grown_trans hg hg3
        have hlen : (rInv Q (gt Is t)).length ≤ 6 := by rw [HX.out.2.2.1.1]; exact hn6
        have hx3 : Ints (Off r.ownBlock) w3 v3 (rInv Q (gt Is t)) := ints_of_own hO3 (by omega) (fun j hj e => by have h1 := (hO3.lt j hj).1; have h2 := (hO.lt j e).2; omega)
        clear hO3 hcw hcx
        go_wp2_with fail
        refine Calls.mono (timesVector_ok Q hP w.heap.size w3 _ r v3 E _ (hp.mono (off_of hOw (Nat.le_refl _) hg03)) hOw HX.out.2.2.2.2.2 hx3 HX.out.2.2.1) ?_
        rintro e4 w4 ⟨v4, rfl, hg4, rfl, hR4⟩
        have hg04 := mut_ext hg03 hOw (Nat.le_refl _) hg4
        rw [HX.out.2.2.2.2.1, ← HX.out.2.1] at hR4
        clear hO hOw hx3 hlen
        go_wp2
        go_roundw
        case rel => exact ⟨k + 1, by go_num, by omega, hg04, hR4⟩
        case measure => simp [intOf]; omega
      · obtain ⟨t, ht⟩ : ∃ t : Nat, t = (l - 1).toNat := ⟨_, rfl⟩
        have hti : t < Is.length := by omega
        have htl : l = (t : Int) + 1 := by omega
        have hxV := HW.out.1 _ (gtMem hti)
        have hst : evalTo Q Is W (k + 1) = rMul Q E (gt Is t) := by rw [evalTo, ← hl, if_neg hneg, ← ht, hEd]
        have htv := G.tv_eq hE hxV
        have habs := abs_ok l wr (by omega)
        rw [if_neg hneg] at habs
        have hti' : (t : Int) < Is.length := by omega
        have hwr : IntKind.i64.wrap (l - 1) = (t : Int) := by rw [htl, show (t : Int) + 1 - 1 = t by omega]; exact IntWalk.i64_in _ (by omega)
        obtain ⟨bx, ox, a2, cap2, rfl, _, _, hcx, hrx⟩ := Rows2.at hi t hti
        have HX := Lib.hid (And.intro hxV (And.intro hst (And.intro htv hE))); clear hxV hst htv hE hEd hl ht htl
        have hcx := hg.cell hcx (by simp)
        go_wp2_with fail
        refine Calls.mono habs ?_
        rintro e2 w2 ⟨rfl, rfl⟩
        clear habs
        go_wp2_with fail
        refine Calls.mono (timesVector_ok Q hP w.heap.size wr _ r _ E _ (hp.mono (off_of hO (Nat.le_refl _) hg)) hO HX.out.2.2.2 (hrx.mono (off_of hO (Nat.le_refl _) hg)) HX.out.1) ?_
        rintro e4 w4 ⟨v4, rfl, hg4, rfl, hR4⟩
        have hg04 := mut_ext hg hO (Nat.le_refl _) hg4
        rw [HX.out.2.2.1, ← HX.out.2.1] at hR4
        clear hO hcw hcx
        go_wp2
        go_roundw
        case rel => exact ⟨k + 1, by go_num, by omega, hg04, hR4⟩
        case measure => simp [intOf]; omega
    · have hie : k = W.length := by omega
      subst hie
      go_wp2
      go_ret
      exact ⟨_, rfl, hg, hO⟩

end Go.Proofs.YtoakmefajbbggaaGreat
namespace Go.Proofs.YtoakmefajbbggaaGreat
open Go.RowKit

open Classical in
set_option maxRecDepth 100000 in
set_option maxHeartbeats 1000000 in
theorem IsBijection_ok {N : Nat} {a : List Int} (h128 : N ≤ 128) (ha : BijL N a) (w : World) (v : Value) (S : Nat → Prop) (hv : Ints S w v a) :
    Calls Tryz.prog 97 #[v] w (Ret w fun _ r => r = .bool true) := by
  have hcon := isBijection_ok a (by rw [ha.1]; omega) w v S hv
  have hd : decide (BijL a.length a) = true := decide_eq_true (by rw [ha.1]; exact ha)
  obtain ⟨av, cap, rfl, _, _⟩ := hv.shape
  have hl := ha.1
  have hl1 : (a.length : Int) ≤ 128 := by omega
  have HC := Lib.hid (And.intro hcon hd); clear hcon hd ha hv hl
  go_enter Tryz.func97, Tryz.ntmps97
  go_wp2_with fail
  refine Calls.mono HC.out.1 ?_
  rintro e1 w1 ⟨v1, rfl, hg1, rfl⟩
  go_wp2
  go_ret
  exact ⟨_, rfl, hg1, by rw [HC.out.2]; rfl⟩

set_option maxRecDepth 100000 in
set_option maxHeartbeats 2000000 in
theorem iCompose_ok (N : Nat) (a b : List Int) (h128 : N ≤ 128) (ha : BijL N a) (hb : BijL N b) (w : World) (v u : Value) (S T : Nat → Prop) (hv : Ints S w v a) (hu : Ints T w u b) :
    Calls Tryz.prog 37 #[v, u] w (Ret w fun w' r => ∃ p n c, r = .tuple #[.slice p n c, .int .i64 0] ∧ Ints Any w' (.slice p n c) (aft a b)) := by
  have h1 := IsBijection_ok h128 ha w v S hv
  have h2 := fun w' (hg : Ext w w') => IsBijection_ok h128 hb w' u T (Ints.ext hu hg)
  have h3 := fun w' (hg : Ext w w') => compose_ok a b (by rw [ha.1]; omega) (fun t ht => by rw [hb.1]; exact ha.2.1 t (by rw [← ha.1]; exact ht)) w' v u S T (Ints.ext hv hg) (Ints.ext hu hg)
  obtain ⟨av, cap, rfl, _, _⟩ := hv.shape
  obtain ⟨bv, capb, rfl, _, _⟩ := hu.shape
  have hla : a.length = N := ha.1
  have hlb : b.length = N := hb.1
  rw [hla, hlb] at h3
  rw [hla] at h1 ⊢
  rw [hlb] at h2 ⊢
  have hal : (aft a b).length ≤ 1000 := by rw [aft_len]; omega
  have HC := Lib.hid (And.intro h1 (And.intro h2 (And.intro h3 hal))); clear h1 h2 h3 hal ha hb hv hu hla hlb
  go_enter Tryz.func37, Tryz.ntmps37
  go_wp2_with fail
  refine Calls.mono HC.out.1 ?_
  rintro e1 w1 ⟨v1, rfl, hg1, rfl⟩
  go_wp2_with fail
  refine Calls.mono (HC.out.2.1 w1 hg1) ?_
  rintro e2 w2 ⟨v2, rfl, hg2, rfl⟩
  have hg02 := grown_trans hg1 hg2
  go_wp2_with fail
  refine Calls.mono (HC.out.2.2.1 w2 hg02) ?_
  rintro e3 w3 ⟨v3, rfl, hg3, hO⟩
  have hi := hO.ints (by have := HC.out.2.2.2; omega)
  obtain ⟨pa, pc, rfl, _, _⟩ := hi.shape
  have HI := Lib.hid hi; clear hi hO
  go_wp2
  go_ret2
  exact ⟨_, rfl, grown_trans hg02 hg3, _, _, _, rfl, HI.out⟩

end Go.Proofs.YtoakmefajbbggaaGreat
