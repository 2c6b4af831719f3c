/-
  DoubleCosets: the reference's side.
-/
import Derived.Test.YtchbegeklckgnaaGreatSSDbl
import Derived.Test.YtchbegeklckgnaaGreatSNCore
namespace Go.Proofs.YtchbegeklckgnaaGreat
open Go.RowKit

open Classical in
noncomputable def dcsC (P : Pr) (U V : List (List Int)) : Int := if twoOk P U V then (if 128 < ordP P then 3 else 0) else 1
open Classical in
noncomputable def dcsL (P : Pr) (U V : List (List Int)) : List (List Int) := if twoOk P U V ∧ ¬ 128 < ordP P then dcTo P (gU P U) (gU P V) (ordP P).toNat else []

theorem dcs_bad {P : Pr} {U V : List (List Int)} (h : ¬ twoOk P U V) : dcsC P U V = 1 ∧ dcsL P U V = [] := by
  unfold dcsC dcsL; rw [if_neg h, if_neg (fun e => h e.1)]; exact ⟨rfl, rfl⟩
theorem dcs_big {P : Pr} {U V : List (List Int)} (h : twoOk P U V) (h2 : 128 < ordP P) : dcsC P U V = 3 ∧ dcsL P U V = [] := by
  unfold dcsC dcsL; rw [if_pos h, if_pos h2, if_neg (fun e => e.2 h2)]; exact ⟨rfl, rfl⟩
theorem dcs_ok {P : Pr} {U V : List (List Int)} (h : twoOk P U V) (h2 : ¬ 128 < ordP P) : dcsC P U V = 0 ∧ dcsL P U V = dcTo P (gU P U) (gU P V) (ordP P).toNat := by
  unfold dcsC dcsL; rw [if_pos h, if_neg h2, if_pos ⟨h, h2⟩]; exact ⟨rfl, rfl⟩

theorem SlO.over {α : Type} [Inhabited α] {El : (Nat → Prop) → World → Value → α → Prop} {E B g : Nat} {w : World} {v : Value} {xs : List α} (h : SlO El E B w v xs) (hg : g < B) : SlOA El E B (fun k => k = g) w v xs := by
  obtain ⟨vs, F, h1, h2, h3, h4, h5⟩ := h
  exact ⟨vs, F, h1, h2, h3, h4, h5, fun i k hi hk e => by have := (h3 i k hi hk).1; omega, fun k hk e => by have := (h2.lt k hk).1; omega⟩

/-- the marks of both lists, behind j steps -/
def mixL (N : Nat) (ns ms : List Int) (j : Nat) : List Bool := (List.range N).map (fun i : Nat => decide ((i : Int) ∈ ns) || (decide (i < j) && decide ((i : Int) ∈ ms)))
theorem mixL_len (N : Nat) (ns ms : List Int) (j : Nat) : (mixL N ns ms j).length = N := by unfold mixL; simp
theorem mixL_zero (N : Nat) (ns ms : List Int) : mixL N ns ms 0 = markL N ns := by unfold mixL markL; simp
theorem mixL_all (N : Nat) (ns ms : List Int) : mixL N ns ms N = markL N (ms ++ ns) := by
  refine List.ext_getElem (by simp [mixL, markL]) (fun i h1 h2 => ?_)
  have hi : i < N := by rw [mixL_len] at h1; exact h1
  simp [mixL, markL, hi, Bool.or_comm]
theorem mixL_at {N : Nat} {ns ms : List Int} {j i : Nat} (hi : i < N) : gt (mixL N ns ms j) i = (decide ((i : Int) ∈ ns) || (decide (i < j) && decide ((i : Int) ∈ ms))) := by
  rw [gt_eq _ _ (by rw [mixL_len]; exact hi)]; simp [mixL]
theorem markL_at {N : Nat} {ns : List Int} {i : Nat} (hi : i < N) : gt (markL N ns) i = decide ((i : Int) ∈ ns) := by
  rw [gt_eq _ _ (by rw [markL_len]; exact hi)]; simp [markL]
theorem mixL_set {N : Nat} {ns ms : List Int} {j : Nat} (hj : j < N) : (mixL N ns ms j).set j (gt (mixL N ns ms j) j || gt (markL N ms) j) = mixL N ns ms (j + 1) := by
  rw [mixL_at hj, markL_at hj]
  refine List.ext_getElem (by simp [mixL]) (fun i h1 h2 => ?_)
  rw [List.getElem_set]
  by_cases he : j = i
  · subst he; simp [mixL]
  · rw [if_neg he]
    have : (i < j + 1) ↔ i < j := by omega
    simp [mixL, this]

set_option maxRecDepth 100000 in
set_option maxHeartbeats 8000000 in
theorem sDcs_ok (P : Pr) (w : World) (pv uv vv : Value) (U V : List (List Int)) (Sp Su Sv : Nat → Prop) (hpv : PresV Sp w pv P) (hu : Rows2 Su w uv U) (hv : Rows2 Sv w vv V) :
    Calls Tryz.prog 42 #[pv, uv, vv] w (Ret w fun w' v => ∃ a n c, v = .tuple #[.slice a n c, .int .i64 (dcsC P U V)] ∧ Rows2 Any w' (.slice a n c) (dcsL P U V)) := by
  obtain ⟨vo, vp, vc, rfl, h3⟩ := hpv
  have hp0 := PresP.box h3 32
  have hg0 : Ext w (w.alloc (.cells #[vo, vp, vc] 32)) := World.grownBy_alloc _ _ _
  have hs0 : (w.alloc (.cells #[vo, vp, vc] 32)).heap.size = w.heap.size + 1 := by simp
  have hu0 := Rows2.ext hu hg0
  have hv0 := Rows2.ext hv hg0
  obtain ⟨au, capu, rfl, _, _⟩ := Sl.shape hu
  obtain ⟨av, capv, rfl, _, _⟩ := Sl.shape hv
  obtain ⟨vo6, vp6, vc6, _, _, hc0, hc1, hc2, h36⟩ := hp0.at
  simp only [Nat.zero_add] at hc1 hc2
  have hbx : ∀ w', Ext (w.alloc (.cells #[vo, vp, vc] 32)) w' → w'.cell? ⟨w.heap.size, 0, none⟩ = some vo6 ∧ w'.cell? ⟨w.heap.size, 1, none⟩ = some vp6 ∧ w'.cell? ⟨w.heap.size, 2, none⟩ = some vc6 := fun w' h => ⟨h.cell hc0 (by simp), h.cell hc1 (by simp), h.cell hc2 (by simp)⟩
  have HB := Lib.hid hbx; clear hbx
  have hE := l13Two_ok P (w.alloc (.cells #[vo, vp, vc] 32)) _ _ _ U V Any Su Sv ⟨_, _, _, rfl, h36⟩ hu0 hv0
  clear hp0 hu hv
  go_enter Tryz.func42, Tryz.ntmps42
  go_wp2_with fail
  clear hc0 hc1 hc2
  have HS := Lib.hid hs0; clear hs0
  generalize hw0 : w.alloc (.cells #[vo, vp, vc] 32) = w0 at *
  clear hw0
  refine Calls.mono hE ?_
  rintro e1 w1 ⟨v1, rfl, hg1, r1, rfl, hr1⟩
  clear hE
  obtain ⟨hb0, hb1, hb2⟩ := HB.out w1 hg1
  cases r1 with
  | false =>
    obtain ⟨hc, hL⟩ := dcs_bad (P := P) (U := U) (V := V) (fun h => by have := hr1.2 h; cases this)
    have HC := Lib.hid (And.intro hc hL); clear hc hL hr1
    go_wp2
    go_ret2
    exact ⟨_, rfl, grown_trans hg0 hg1, none, 0, 0, by rw [HC.out.1]; rfl, by rw [HC.out.2]; exact ⟨none, 0, rfl, ⟨by simp, by simp, fun _ => rfl⟩, fun i hi => by simp at hi⟩⟩
  | true =>
    have hok : twoOk P U V := hr1.1 rfl
    have G := grp_of_r hok.1
    have hP := G.v
    have hn6 := hP.n6
    have h729 : ordP P ≤ 729 := hP.le729
    have hpos := hP.ordP_pos
    have hU := hok.2.1.2
    have hV := hok.2.2.2
    have HOK := Lib.hid hok; clear hr1 hok
    have hu1 : Rows2 Su w1 (.slice au U.length capu) (cseq P (gU P U)) := by rw [← hU]; exact Rows2.ext hu0 hg1
    have hv1 : Rows2 Sv w1 (.slice av V.length capv) (cseq P (gU P V)) := by rw [← hV]; exact Rows2.ext hv0 hg1
    have HUV := Lib.hid (And.intro hU hV); clear hU hV
    obtain ⟨N, hN⟩ : ∃ N, N = (ordP P).toNat := ⟨_, rfl⟩
    have hNo : (N : Int) = ordP P := by omega
    have HNo := Lib.hid (And.intro hN hNo)
    have hN729 : N ≤ 729 := by omega
    go_wp2_with fail
    clear hb0 hb1 hb2
    refine Calls.mono (l10Order_ok w1 _ P Any hP ⟨_, _, _, rfl, Pres3.ext h36 hg1⟩) ?_
    rintro e2 w2 ⟨v2, rfl, hg2, rfl⟩
    rw [← hNo]
    have hg02 := grown_trans hg1 hg2
    obtain ⟨hb0, hb1, hb2⟩ := HB.out w2 hg02
    by_cases hbig : 128 < ordP P
    · obtain ⟨hc, hL⟩ := dcs_big HOK.out hbig
      have hbN : (128 : Int) < N := by omega
      have HC := Lib.hid (And.intro hc hL); clear hc hL hbig hN hNo h729 hpos
      go_wp2
      go_ret2
      exact ⟨_, rfl, grown_trans hg0 hg02, none, 0, 0, by rw [HC.out.1]; rfl, by rw [HC.out.2]; exact ⟨none, 0, rfl, ⟨by simp, by simp, fun _ => rfl⟩, fun i hi => by simp at hi⟩⟩
    · obtain ⟨hc, hL⟩ := dcs_ok HOK.out hbig
      have hbN : ¬ (128 : Int) < N := by omega
      have HC := Lib.hid (And.intro hc hL); clear hc hL hbig hN hNo h729 hpos
      go_wp2_with fail
      clear hb0 hb1 hb2
      refine Calls.mono (l10Order_ok w2 _ P Any hP ⟨_, _, _, rfl, Pres3.ext h36 hg02⟩) ?_
      rintro e3 w3 ⟨v3, rfl, hg3, rfl⟩
      rw [← HNo.out.2]
      have hg03 := grown_trans hg02 hg3
      go_wp2_with (first | (at_make; refine wp_make_bools rfl _ _ rfl w3.heap.size N w3.heap.size rfl (N : Int) rfl rfl rfl (by omega) (Nat.le_refl _) ?_; intro w4 hM4 hg4 hlt4) | fail)
      have hur3 := Rows2.ext hu1 (grown_trans hg2 hg3)
      have hvr3 := Rows2.ext hv1 (grown_trans hg2 hg3)
      clear hg1 hg2 hg02 hu1 hv1
      obtain ⟨H, hH⟩ : ∃ H, H = gU P U := ⟨_, rfl⟩
      obtain ⟨K, hK⟩ : ∃ K, K = gU P V := ⟨_, rfl⟩
      have hSH : Sub P H := by rw [hH]; exact G.subB HOK.out.2.1
      have hSK : Sub P K := by rw [hK]; exact G.subB HOK.out.2.2
      have hur : Rows2 Su w3 (.slice au U.length capu) (cseq P H) := by rw [hH]; exact hur3
      have hvr : Rows2 Sv w3 (.slice av V.length capv) (cseq P K) := by rw [hK]; exact hvr3
      have hM0 : BOwn w3.heap.size w4 (.slice (some ⟨w3.heap.size, 0, none⟩) N N) (markL N (dcM P H K 0)) := by
        rw [show dcM P H K 0 = [] from rfl, markL_nil]; exact hM4
      have HHK := Lib.hid (And.intro hH (And.intro hK (And.intro hSH hSK))); clear hH hK hSH hSK hM4 hur3 hvr3
      go_wp2
      go_loopw [9, 10] (fun ov iv wr => ∃ (k : Nat) (v9 : Value), v9 = ov ∧ iv = .int .i64 k ∧ k ≤ N ∧ w4.heap.size ≤ wr.heap.size ∧ Ext w3 wr ∧ BOwn w3.heap.size wr (.slice (some ⟨w3.heap.size, 0, none⟩) N N) (markL N (dcM P H K k)) ∧ RowsO w4.heap.size wr v9 (dcTo P H K k)) (fun _ iv _ => N - (intOf iv).toNat)
      case atStart => exact ⟨0, _, rfl, rfl, by omega, (World.grownBy_alloc w4 _ none).size, grown_trans hg4 (World.grownBy_alloc _ _ _), hM0.ext0 (World.grownBy_alloc _ _ _), [], fun _ _ => False, rfl, World.ownsRow_lit w4 #[] 0 (Nat.le_refl _) (by decide) rfl, by simp, by simp, by simp [dcTo]⟩
      case round =>
        clear hM0
        obtain ⟨k, v9, rfl, rfl, hk, hsr, hg, hM, hO⟩ := hrel
        have hg0r := grown_trans hg03 hg
        obtain ⟨hb0, hb1, hb2⟩ := HB.out wr hg0r
        have hdl := dcTo_len P H K k
        go_wp2_with fail
        clear hb0 hb1 hb2
        refine Calls.mono (l10Order_ok wr _ P Any hP ⟨_, _, _, rfl, Pres3.ext h36 hg0r⟩) ?_
        rintro e5 w5 ⟨v5, rfl, hg5, rfl⟩
        rw [← HNo.out.2]
        have hM5 := hM.ext0 hg5
        have hO5 := SlO.ext rdOwn hO hg5
        have hg35 := grown_trans hg hg5
        have hs45 : w4.heap.size ≤ w5.heap.size := Nat.le_trans hsr hg5.size
        clear hsr
        clear hM hO hg0r
        have hg05 := grown_trans hg03 hg35
        obtain ⟨hb0, hb1, hb2⟩ := HB.out w5 hg05
        by_cases hlt : k < N
        · have hlt' : (k : Int) < N := by omega
          have hcel := hM5.cell k (by rw [markL_len]; exact hlt)
          rw [markL_at hlt] at hcel
          by_cases hin : (k : Int) ∈ dcM P H K k
          · have hds := (G.dcM_mem HHK.out.2.2.1 HHK.out.2.2.2 k k).1 hin
            rw [decide_eq_true hin] at hcel
            rw [← dcM_seen hds] at hM5
            rw [← dcTo_seen hds] at hO5
            have HDS := Lib.hid (And.intro hin hds); clear hin hds
            go_wp2
            go_roundw
            case rel => exact ⟨k + 1, v9, rfl, by go_num, by omega, hs45, hg35, hM5, hO5⟩
            case measure => simp [intOf]; omega
          · have hds : ¬ dcSeen P H K (dcTo P H K k) k := fun h => hin ((G.dcM_mem HHK.out.2.2.1 HHK.out.2.2.2 k k).2 h)
            rw [decide_eq_false hin] at hcel
            have hX := elAt_vec hP (k : Int) (by omega)
            have hXl : (elAt P (k : Int)).length ≤ 6 := by rw [hX.1]; exact hn6
            have hnext : dcTo P H K (k + 1) = dcTo P H K k ++ [elAt P k] := dcTo_new hds
            have hnextM : dcM P H K (k + 1) = rowM P (elemsIn P H) (elemsIn P K) (elAt P k) (elemsIn P H).length ++ dcM P H K k := dcM_new hds
            have HDS := Lib.hid (And.intro hX (And.intro hXl (And.intro hnext hnextM))); clear hin hds hX hXl hnext hnextM
            go_wp2_with fail
            clear hb0 hb1 hb2
            refine Calls.mono (l10At_ok P hP w5 _ (k : Int) Any ⟨_, _, _, rfl, Pres3.ext h36 hg05⟩ (by omega) (by omega)) ?_
            rintro e6 w6 ⟨v6, rfl, hg6, hO6⟩
            have hYO : OwnIn (From w5.heap.size) w6 v6 (elAt P k) := OwnIn.of hO6 (by have := HDS.out.2.1; omega) (fun j h1 _ => h1)
            have hXi : Ints (fun j => w5.heap.size ≤ j) w6 v6 (elAt P k) := ints_of_own hO6 (by have := HDS.out.2.1; omega) (fun j hj => (hO6.lt j hj).1)
            obtain ⟨ax, capx, hvx, _, _⟩ := hXi.shape
            subst hvx
            clear hO6
            go_wp2_with (first | (at_builtin; refine wp_app_row rfl _ _ rfl w4.heap.size w5 w6 v9 _ (dcTo P H K k) (elAt P k) rfl hO5 hg6 hYO rfl rfl (by omega) hs45 ?_; intro v7 w7 hO7 hg7 hg7b; have hE37 := hO5.extw hg35 (by omega) hg7; obtain ⟨hb0, hb1, hb2⟩ := HB.out w7 (grown_trans hg03 hE37)) | fail)
            clear hb0 hb1 hb2
            have hob : ∀ b, v9.ownBlock = some b → w4.heap.size ≤ b ∧ b < w5.heap.size := fun b hb => hO5.lt b hb
            have hM7 : BOwn w3.heap.size w7 (.slice (some ⟨w3.heap.size, 0, none⟩) N N) (markL N (dcM P H K k)) := (hM5.ext0 hg6).kept hg7b (.inr (fun e => by have := (hob w3.heap.size e.symm).1; omega))
            have hX7 : Ints Any w7 (.slice ax (elAt P (k : Int)).length capx) (elAt P k) := Ints.mono hXi (frame_of hg7b (fun b hb _ => ⟨trivial, fun e => by have := (hob b e).2; omega⟩))
            have hs7 : w5.heap.size ≤ w7.heap.size := hg7.size
            rw [← HDS.out.2.2.1] at hO7
            clear hM5 hO5 hYO hXi hg7 hg7b hob hg05
            refine Calls.mono (l14Double_ok P G w7 _ _ _ _ H K (elAt P k) Any Su Sv Any HHK.out.2.2.1 HHK.out.2.2.2 ⟨_, _, _, rfl, Pres3.ext h36 (grown_trans hg03 hE37)⟩ (Rows2.ext hur hE37) (Rows2.ext hvr hE37) hX7 HDS.out.1) ?_
            rintro e8 w8 ⟨v8, rfl, hg8, hD⟩
            rw [← HNo.out.1] at hD
            obtain ⟨ms, hms⟩ : ∃ ms, ms = rowM P (elemsIn P H) (elemsIn P K) (elAt P k) (elemsIn P H).length := ⟨_, rfl⟩
            rw [← hms] at hD
            obtain ⟨gd, capd, hvd, hgd1, hgd2⟩ := hD.form (by rw [markL_len]; omega)
            rw [markL_len] at hvd
            subst hvd
            have hM8 : BOwn w3.heap.size w8 (.slice (some ⟨w3.heap.size, 0, none⟩) N N) (mixL N (dcM P H K k) ms 0) := by rw [mixL_zero]; exact hM7.ext0 hg8
            have hO8 := SlO.over (SlO.ext rdOwn hO7 hg8) hlt4
            have hE38 := grown_trans hE37 hg8
            have HMS := Lib.hid hms; clear hms hM7 hO7
            go_wp2
            go_loopw [13] (fun jv wr => ∃ j : Nat, jv = .int .i64 j ∧ j ≤ N ∧ w8.grownBy wr (some w3.heap.size) ∧ BOwn w3.heap.size wr (.slice (some ⟨w3.heap.size, 0, none⟩) N N) (mixL N (dcM P H K k) ms j)) (fun jv _ => N - (intOf jv).toNat)
            case atStart => exact ⟨0, rfl, by omega, grown_refl _ _, hM8⟩
            case round =>
              clear hM8
              obtain ⟨j, rfl, hj, hgj, hM⟩ := hrel
              by_cases hltj : j < N
              · have hltj' : (j : Int) < N := by omega
                have hDr : BOwn w7.heap.size wr (.slice (some ⟨gd, 0, none⟩) N capd) (markL N ms) := hD.keep hgj (by omega)
                have hcd := hDr.cell j (by rw [markL_len]; exact hltj)
                have hcs := hM.cell j (by rw [mixL_len]; exact hltj)
                have hfr := hM.frozen j
                have hst := mixL_set (ns := dcM P H K k) (ms := ms) hltj
                obtain ⟨p, hp⟩ : ∃ p, p = gt (mixL N (dcM P H K k) ms j) j := ⟨_, rfl⟩
                obtain ⟨q, hq⟩ : ∃ q, q = gt (markL N ms) j := ⟨_, rfl⟩
                rw [← hp, ← hq] at hst
                rw [← hp] at hcs
                rw [← hq] at hcd
                obtain ⟨hO3, hgs⟩ := hM.store j (p || q)
                rw [hst] at hO3
                have hgn := grown_trans hgj hgs
                clear hp hq hst hDr hgs hM
                cases p with
                | true =>
                  go_wp2
                  go_roundw
                  case rel => exact ⟨j + 1, by go_num, by omega, hgn, hO3⟩
                  case measure => simp [intOf]; omega
                | false =>
                  go_wp2
                  go_roundw
                  case rel => exact ⟨j + 1, by go_num, by omega, hgn, hO3⟩
                  case measure => simp [intOf]; omega
              · have hje : j = N := by omega
                subst hje
                rw [mixL_all, HMS.out, ← HDS.out.2.2.2] at hM
                have hE3r : Ext w3 wr := grown_own hE38 hgj (fun b hb hlt => by cases hb; omega)
                have hOr := (SlOA.kept rdOwn hO8 hgj rfl).o
                have hsrr : w4.heap.size ≤ wr.heap.size := by have h1 := hgj.size; have h2 := hg8.size; omega
                go_wp2
                go_roundw
                case rel => exact ⟨k + 1, _, rfl, by go_num, by omega, hsrr, hE3r, hM, hOr⟩
                case measure => simp [intOf]; omega
        · have hke : k = N := by omega
          subst hke
          have hR5 : Rows2 Any w5 v9 (dcsL P U V) := by
            rw [HC.out.2, ← HHK.out.1, ← HHK.out.2.1, ← HNo.out.1]
            exact Rows2.sub (RowsD.rows (hO5.toD (by omega))) (fun _ _ _ => trivial)
          obtain ⟨az, capz, hvz, _, _⟩ := SlD.shape (hO5.toD (by omega))
          subst hvz
          go_wp2
          go_ret2
          exact ⟨_, rfl, grown_trans hg0 hg05, _, _, _, by rw [HC.out.1]; rfl, hR5⟩

end Go.Proofs.YtchbegeklckgnaaGreat
