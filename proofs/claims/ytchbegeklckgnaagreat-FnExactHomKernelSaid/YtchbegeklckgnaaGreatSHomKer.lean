/-
  The program's HomKernel and SubgroupPreimage.
-/
import Derived.Test.YtchbegeklckgnaaGreatSHomPre
import Derived.Test.YtchbegeklckgnaaGreatSTwo
namespace Go.Proofs.YtchbegeklckgnaaGreat
open Go.RowKit

set_option maxRecDepth 100000 in
set_option maxHeartbeats 4000000 in
theorem preimage_ok (P Q : Pr) (GP : Grp P) (GQ : Grp Q) (Is : List (List Int)) (H : List Int → Prop) (S : Sub Q H) (w : World) (b : Nat) (vv : Value) (Sv : Nat → Prop) (hh : HomP Any w b P Q Is) (hI : ∀ x ∈ Is, Vec Q.orders x)
    (hIl : Is.length = P.orders.length) (hv : Rows2 Sv w vv (cseq Q H)) :
    Calls Tryz.prog 51 #[.pointer (some ⟨b, 0, none⟩), vv] w (Ret w fun w' v => RowsO w.heap.size w' v (cseq P (genP P (backP P Q Is H)))) := by
  obtain ⟨av, capv, rfl, _, _⟩ := Sl.shape hv
  have HI := Lib.hid (And.intro hI hIl); clear hI hIl
  go_enter Tryz.func51, Tryz.ntmps51
  have hg0 : Ext w ((w.alloc (.cells #[.pointer (some ⟨b, 0, none⟩)] 63)).alloc (.cells #[.slice av (cseq Q H).length capv] 23)) := grown_trans (World.grownBy_alloc _ _ _) (World.grownBy_alloc _ _ _)
  have hc1 : ((w.alloc (.cells #[.pointer (some ⟨b, 0, none⟩)] 63)).alloc (.cells #[.slice av (cseq Q H).length capv] 23)).cell? ⟨w.heap.size, 0, none⟩ = some (.pointer (some ⟨b, 0, none⟩)) := by
    have h1 : (w.alloc (.cells #[.pointer (some ⟨b, 0, none⟩)] 63)).cell? ⟨w.heap.size, 0, none⟩ = some (.pointer (some ⟨b, 0, none⟩)) := by rw [World.cell?_alloc_at _ _ _ _ rfl]; rfl
    exact (World.grownBy_alloc _ _ none).cell h1 (by simp)
  have hc2 : ((w.alloc (.cells #[.pointer (some ⟨b, 0, none⟩)] 63)).alloc (.cells #[.slice av (cseq Q H).length capv] 23)).cell? ⟨w.heap.size + 1, 0, none⟩ = some (.slice av (cseq Q H).length capv) := by
    rw [World.cell?_alloc_at _ _ _ _ (by simp)]; rfl
  go_wp2_with fail
  refine Calls.mono (elementsWithPre_ok P GP _ _ _ _ (fun y => H (prodR Q Is y Is.length)) Any (hh.1.ext hg0) (fun w' xv X Sx hg hx hX => preClosure_ok P Q GP GQ Is H S w' b w.heap.size (w.heap.size + 1) _ Sv (hh.ext (grown_trans hg0 hg)) HI.out.1 HI.out.2 (hg.cell hc1 (by simp)) (hg.cell hc2 (by simp)) (Rows2.ext hv (grown_trans hg0 hg)) xv X Sx hx hX)) ?_
  rintro e1 w1 ⟨v1, rfl, hg1, hO⟩
  go_wp2
  go_ret
  exact ⟨_, rfl, grown_trans hg0 hg1, hO.weak hg0.size⟩

/-- a homomorphism's data by value -/
def HomV (S : Nat → Prop) (w : World) (v : Value) (P Q : Pr) (Is : List (List Int)) : Prop :=
  ∃ vo vp vc uo up uc vi, v = .agg #[vo, vp, vc, uo, up, uc, vi] ∧ Pres3 S w vo vp vc P ∧ Pres3 S w uo up uc Q ∧ Rows2 S w vi Is

theorem HomP.box {w : World} {vo vp vc uo up uc vi : Value} {P Q : Pr} {Is : List (List Int)} {S : Nat → Prop} (h1 : Pres3 S w vo vp vc P) (h2 : Pres3 S w uo up uc Q) (h3 : Rows2 S w vi Is) (T : Nat) :
    HomP Any (w.alloc (.cells #[vo, vp, vc, uo, up, uc, vi] T)) w.heap.size P Q Is := by
  have hg : Ext w (w.alloc (.cells #[vo, vp, vc, uo, up, uc, vi] T)) := World.grownBy_alloc _ _ _
  have hc : ∀ i, (w.alloc (.cells #[vo, vp, vc, uo, up, uc, vi] T)).cell? ⟨w.heap.size, i, none⟩ = #[vo, vp, vc, uo, up, uc, vi][i]? := fun i => World.cell?_alloc_at _ _ _ _ rfl
  have hp : ∀ {x y z R}, Pres3 S w x y z R → Pres3 Any (w.alloc (.cells #[vo, vp, vc, uo, up, uc, vi] T)) x y z R := fun h => (h.ext hg).mono (fun k _ hk => ⟨trivial, hk, rfl⟩)
  obtain ⟨a, c, rfl, hl, hcc⟩ := h3
  refine ⟨⟨_, _, vo, vp, vc, rfl, trivial, by simp, by rw [hc]; rfl, by rw [hc]; rfl, by rw [hc]; rfl, hp h1⟩, ⟨_, _, uo, up, uc, rfl, trivial, by simp, by rw [hc]; rfl, by rw [hc]; rfl, by rw [hc]; rfl, hp h2⟩, a, c, by rw [hc]; rfl, ?_⟩
  exact Rows2.sub (Rows2.ext ⟨a, c, rfl, hl, hcc⟩ hg) (fun _ _ _ => trivial)

theorem backP_vec {P Q : Pr} {Is : List (List Int)} {H : List Int → Prop} : ∀ y, backP P Q Is H y → Vec P.orders y := fun _ h => h.1

open Classical in
/-- the code and the list of HomKernel -/
noncomputable def kerC (P Q : Pr) (Is : List (List Int)) : Int := if HomB P Q Is then 0 else 1
open Classical in
noncomputable def kerL (P Q : Pr) (Is : List (List Int)) : List (List Int) := if HomB P Q Is then cseq P (genP P (backP P Q Is (fun x => x = zeros Q.orders.length))) else []
open Classical in
noncomputable def preC (P Q : Pr) (Is V : List (List Int)) : Int := if HomB P Q Is ∧ SubB Q V then 0 else 1
open Classical in
noncomputable def preL (P Q : Pr) (Is V : List (List Int)) : List (List Int) := if HomB P Q Is ∧ SubB Q V then cseq P (genP P (backP P Q Is (gU Q V))) else []

theorem ker_yes {P Q : Pr} {Is : List (List Int)} (h : HomB P Q Is) : kerC P Q Is = 0 ∧ kerL P Q Is = cseq P (genP P (backP P Q Is (fun x => x = zeros Q.orders.length))) := by unfold kerC kerL; rw [if_pos h, if_pos h]; exact ⟨rfl, rfl⟩
theorem ker_no {P Q : Pr} {Is : List (List Int)} (h : ¬ HomB P Q Is) : kerC P Q Is = 1 ∧ kerL P Q Is = [] := by unfold kerC kerL; rw [if_neg h, if_neg h]; exact ⟨rfl, rfl⟩
theorem pre_yes {P Q : Pr} {Is V : List (List Int)} (h : HomB P Q Is ∧ SubB Q V) : preC P Q Is V = 0 ∧ preL P Q Is V = cseq P (genP P (backP P Q Is (gU Q V))) := by unfold preC preL; rw [if_pos h, if_pos h]; exact ⟨rfl, rfl⟩
theorem pre_no {P Q : Pr} {Is V : List (List Int)} (h : ¬ (HomB P Q Is ∧ SubB Q V)) : preC P Q Is V = 1 ∧ preL P Q Is V = [] := by unfold preC preL; rw [if_neg h, if_neg h]; exact ⟨rfl, rfl⟩

theorem cseq_trivial {Q : Pr} (G : Grp Q) : cseq Q (fun x => x = zeros Q.orders.length) = [] := by
  have S := G.sub_one
  have h := (G.seq_facts S).2.1
  have h1 := (G.seq_facts S).1
  cases he : cseq Q (fun x => x = zeros Q.orders.length) with
  | nil => rfl
  | cons z l =>
    rw [he] at h h1
    have hz := h z (List.mem_cons_self ..)
    have h2 := (h1.1 z (List.mem_cons_self ..))
    have h3 := h2.2.2
    rw [hz] at h3
    have h4 : gt (zeros Q.orders.length) (dep (zeros Q.orders.length)) = 0 := gt_replicate _ _
    rw [h4] at h3
    exact absurd h3 (by decide)

set_option maxRecDepth 100000 in
set_option maxHeartbeats 4000000 in
theorem iKer_ok (P Q : Pr) (Is : List (List Int)) (w : World) (hv : Value) (Sh : Nat → Prop) (hh : HomV Sh w hv P Q Is) :
    Calls Tryz.prog 16 #[hv] w (Ret w fun w' v => ∃ a n c, v = .tuple #[.slice a n c, .int .i64 (kerC P Q Is)] ∧ RowsO w.heap.size w' (.slice a n c) (kerL P Q Is)) := by
  obtain ⟨vo, vp, vc, uo, up, uc, vi, rfl, h1, h2, h3⟩ := hh
  have hB := HomP.box h1 h2 h3 34
  have hg0 : Ext w (w.alloc (.cells #[vo, vp, vc, uo, up, uc, vi] 34)) := World.grownBy_alloc _ _ _
  go_enter Tryz.func16, Tryz.ntmps16
  go_wp2_with fail
  refine Calls.mono (isHom_ok P Q Is _ w.heap.size hB) ?_
  rintro e1 w1 ⟨v1, rfl, hg1, r, rfl, hr⟩
  have hB1 := hB.ext hg1
  have hg01 := grown_trans hg0 hg1
  clear hB hg1 hg0
  cases r with
  | false =>
    obtain ⟨hc, hL⟩ := ker_no (P := P) (Q := Q) (Is := Is) (fun h => by have := hr.2 h; cases this)
    have HC := Lib.hid (And.intro hc hL); clear hc hL hr
    go_wp2
    go_ret2
    exact ⟨_, rfl, hg01, none, 0, 0, by rw [HC.out.1]; rfl, by rw [HC.out.2]; exact SlO.nil _ _ _ _⟩
  | true =>
    have hH := hr.1 rfl
    obtain ⟨hc, hL⟩ := ker_yes hH
    have GP := grp_of_r hH.1
    have GQ := grp_of_r hH.2.1
    have hnil : Rows2 Any w1 (.slice none 0 0) (cseq Q (fun x => x = zeros Q.orders.length)) := by
      rw [cseq_trivial GQ]; exact ⟨none, 0, rfl, ⟨by simp, by simp, fun _ => rfl⟩, fun i hi => by simp at hi⟩
    have HC := Lib.hid (And.intro hc (And.intro hL hH)); clear hc hL hr hH
    go_wp2_with fail
    refine Calls.mono (preimage_ok P Q GP GQ Is _ GQ.sub_one w1 w.heap.size _ Any hB1 HC.out.2.2.2.2.2.1 HC.out.2.2.2.2.1 hnil) ?_
    rintro e2 w2 ⟨v2, rfl, hg2, hO⟩
    rw [← HC.out.2.1] at hO
    have hlen : (kerL P Q Is).length ≤ 6 := by
      rw [HC.out.2.1]
      have := GP.cseq_len (GP.genP_sub (Q := backP P Q Is (fun x => x = zeros Q.orders.length)) (fun y h => h.1))
      have := GP.v.n6
      omega
    obtain ⟨az, capz, hvz, _, _⟩ := SlD.shape (hO.toD (by omega))
    subst hvz
    go_wp2
    go_ret2
    exact ⟨_, rfl, grown_trans hg01 hg2, _, _, _, by rw [HC.out.1]; rfl, hO.weak hg01.size⟩

set_option maxRecDepth 100000 in
set_option maxHeartbeats 4000000 in
theorem iPre_ok (P Q : Pr) (Is V : List (List Int)) (w : World) (hv vv : Value) (Sh Sv : Nat → Prop) (hh : HomV Sh w hv P Q Is) (hvr : Rows2 Sv w vv V) :
    Calls Tryz.prog 25 #[hv, vv] w (Ret w fun w' v => ∃ a n c, v = .tuple #[.slice a n c, .int .i64 (preC P Q Is V)] ∧ RowsO w.heap.size w' (.slice a n c) (preL P Q Is V)) := by
  obtain ⟨vo, vp, vc, uo, up, uc, vi, rfl, h1, h2, h3⟩ := hh
  obtain ⟨av, capv, rfl, _, _⟩ := Sl.shape hvr
  have hB := HomP.box h1 h2 h3 34
  have hg0 : Ext w (w.alloc (.cells #[vo, vp, vc, uo, up, uc, vi] 34)) := World.grownBy_alloc _ _ _
  go_enter Tryz.func25, Tryz.ntmps25
  go_wp2_with fail
  refine Calls.mono (isHom_ok P Q Is _ w.heap.size hB) ?_
  rintro e1 w1 ⟨v1, rfl, hg1, r, rfl, hr⟩
  have hB1 := hB.ext hg1
  have hg01 := grown_trans hg0 hg1
  clear hB hg1 hg0
  cases r with
  | false =>
    obtain ⟨hc, hL⟩ := pre_no (P := P) (Q := Q) (Is := Is) (V := V) (fun h => by have := hr.2 h.1; cases this)
    have HC := Lib.hid (And.intro hc hL); clear hc hL hr
    go_wp2
    go_ret2
    exact ⟨_, rfl, hg01, none, 0, 0, by rw [HC.out.1]; rfl, by rw [HC.out.2]; exact SlO.nil _ _ _ _⟩
  | true =>
    have hH := hr.1 rfl
    have GP := grp_of_r hH.1
    have GQ := grp_of_r hH.2.1
    have HH := Lib.hid hH; clear hr hH
    have hgl : Ext w1 (w1.alloc (.cells #[.slice av V.length capv] 23)) := World.grownBy_alloc _ _ _
    have hl3 := rows3One (Rows2.ext hvr hg01)
    have hsub := areSubgroups_ok Q _ _ _ [V] Any Any (hB1.2.1.ext hgl) hl3
    clear hl3
    go_wp2_with fail
    refine Calls.mono hsub ?_
    rintro e2 w2 ⟨v2, rfl, hg2, r2, rfl, hr2⟩
    clear hsub
    have hg12 := grown_trans hgl hg2
    have hg02 := grown_trans hg01 hg12
    have hB2 := hB1.ext hg12
    clear hg2 hgl
    cases r2 with
    | false =>
      obtain ⟨hc, hL⟩ := pre_no (P := P) (Q := Q) (Is := Is) (V := V) (fun h => by have := hr2.2 ⟨h.1.2.1, fun u hu => by rw [List.mem_singleton.1 hu]; exact h.2⟩; cases this)
      have HC := Lib.hid (And.intro hc hL); clear hc hL hr2
      go_wp2
      go_ret2
      exact ⟨_, rfl, hg02, none, 0, 0, by rw [HC.out.1]; rfl, by rw [HC.out.2]; exact SlO.nil _ _ _ _⟩
    | true =>
      have hS := (hr2.1 rfl).2 V (List.mem_singleton_self _)
      obtain ⟨hc, hL⟩ := pre_yes (P := P) (Q := Q) (Is := Is) (V := V) ⟨HH.out, hS⟩
      have hvr2 : Rows2 Sv w2 (.slice av V.length capv) (cseq Q (gU Q V)) := by rw [← hS.2]; exact Rows2.ext hvr hg02
      have HC := Lib.hid (And.intro hc (And.intro hL hS)); clear hc hL hr2 hS
      go_wp2_with fail
      refine Calls.mono (preimage_ok P Q GP GQ Is (gU Q V) (GQ.subB HC.out.2.2) w2 w.heap.size _ Sv hB2 HH.out.2.2.2.1 HH.out.2.2.1 hvr2) ?_
      rintro e3 w3 ⟨v3, rfl, hg3, hO⟩
      rw [← HC.out.2.1] at hO
      have hlen : (preL P Q Is V).length ≤ 6 := by
        rw [HC.out.2.1]
        have := GP.cseq_len (GP.genP_sub (Q := backP P Q Is (gU Q V)) (fun y h => h.1))
        have := GP.v.n6
        omega
      obtain ⟨az, capz, hvz, _, _⟩ := SlD.shape (hO.toD (by omega))
      subst hvz
      go_wp2
      go_ret2
      exact ⟨_, rfl, grown_trans hg02 hg3, _, _, _, by rw [HC.out.1]; rfl, hO.weak hg02.size⟩

end Go.Proofs.YtchbegeklckgnaaGreat
