/-
  impl.copyRows, impl.core.
  spec.l02Unit, l12Whole: the whole group's sequence.
  NormalCore on both sides.
  Plain: the smallest subgroup above one that is closed under the conjugation by given elements.
  spec.l13Stable, l13Normal.
  Plain: the closure of a list under the conjugation by another one, as the program makes it: pass by pass over a table.
  impl.closure: the smallest subgroup above a list that is closed under the conjugation by another list.
  NormalClosure on both sides.
  Plain: cores and closures of subgroups, of conjugate ones too.
  DoubleCosetSize on both sides.
  slices.Grow at rows, laid from the shelf.
  What the program's public subgroup functions answer on subgroups (printed by gen_auxw.py).
  Plain: the elements of a consistent presentation as a type with products; subgroups, cosets, their counting.
  impl.isSubset; impl.SubgroupIndex and impl.IsSubset on subgroups.
  impl.IsSubset on subgroups (printed by gen_aux2.py).
  The laws' comparisons: laws.eqInt64SS, eqInt64SSS, eqPresentation.
  laws.likeInts, like29, like39: whether two lists are alike (printed by gen_like.py).
  laws.roll, below, draw9: numbers that follow from the bytes.
  laws.FnClosures answers true (printed by gen_lcl.py).
-/
import Derived.Test.YtdcobapnlpeaaaaGreatTCl1
import Derived.Maps.OwnSet
import Derived.Maps.StringElems
import Derived.StringKeys
import Derived.Laws.BitsAllLaws
import Derived.Shelf.Spec.SlicesGrow
import Derived.Deep.RegionHeld3
import Derived.StillTailTactics
namespace Go.Proofs.YtdcobapnlpeaaaaGreat
open Go.RowKit
set_option maxHeartbeats 1000000 in
theorem copyRows_ok (w : World) (v : Value) (L : List (List Int)) (S : Nat → Prop) (hv : Rows2 S w v L) (hL : ∀ x ∈ L, x.length ≤ 1000000) (hlen : L.length ≤ 1000000) :
  Calls Tryz.prog 252 #[v] w (Ret w fun w' r => RowsO w.heap.size w' r L) := by
 obtain ⟨a, cap, rfl, _, _⟩ := Sl.shape hv
 have HL := Lib.hid hL; clear hL
 go_enter Tryz.func252, Tryz.ntmps252
 go_wp2
 go_loopw [3, 8] (fun ov iv wr => ∃ (i : Nat) (v4 : Value), v4 = ov ∧ iv = .int .i64 i ∧ i ≤ L.length ∧ Ext w wr ∧ RowsO w.heap.size wr v4 (L.take i)) (fun _ iv _ => L.length - (intOf iv).toNat)
 case atStart => exact ⟨0, _, rfl, rfl, by omega, Ext.refl _, SlO.nil _ _ _ _⟩
 case round =>
  obtain ⟨i, v4, rfl, rfl, hi, hg, hO⟩ := hrel
  by_cases hlt : i < L.length
  ·have hlt' : (i : Int) < L.length := by omega
   obtain ⟨b, off, a2, cap2, rfl, _, _, hc, hr⟩ := Rows2.at (Rows2.ext hv hg) i hlt
   have hstep := take_succ_gt L i hlt
   have hll := HL.out _ (gtMem hlt)
   have htl : (L.take i).length ≤ 1000000 := by rw [List.length_take]; omega
   have HST := Lib.hid (And.intro hstep hll); clear hstep hll
   go_wp2_with fail
   refine Calls.mono (clone_ok wr _ (gt L i) _ hr (by have := HST.out.2; omega)) ?_
   rintro eC wC ⟨vC, rfl, hgC, hOC⟩
   have hYO : OwnIn (From wr.heap.size) wC vC (gt L i) := OwnIn.of hOC (by have := HST.out.2; omega) (fun j h1 _ => h1)
   obtain ⟨ay, capy, hvy, _, _⟩ := hYO.ints.shape
   subst hvy
   clear hc
   go_wp2_with (first | (at_builtin; refine wp_app_row rfl _ _ rfl w.heap.size wr wC v4 _ (L.take i) (gt L i) rfl hO hgC hYO rfl rfl htl hg.size ?_; intro v5 w5 hO5 hg5 hg6; have hgw5 := hO.extw hg (Nat.le_refl _) hg5) | fail)
   go_roundw
   case rel => exact ⟨i + 1, v5, rfl, by go_num, by omega, hgw5, by rw [HST.out.1]; exact hO5⟩
   case measure => simp [intOf]; omega
  ·have hie : i = L.length := by omega
   subst hie
   rw [List.take_length] at hO
   obtain ⟨az, capz, hvz, _, _⟩ := SlD.shape (hO.toD (by omega))
   subst hvz
   go_wp2
   go_ret
   exact ⟨_, rfl, hg, hO⟩
def CoreSt (P : Pr) (H K : List Int → Prop) : Prop := Sub P K ∧ (∀ x, K x → H x) ∧ ∀ x, coreP P H x → K x
def CorePass (P : Pr) (H K K1 : List Int → Prop) (i : Nat) : Prop := CoreSt P H K1 ∧ (∀ x, K1 x → K x) ∧ ∀ j, j < i → ∀ x, K1 x → cjS P K (unitV P.orders.length j) x
section
variable {P : Pr} (G : Grp P)
include G
theorem Grp.corePass_step {H K K1 : List Int → Prop} {i : Nat} (h : CorePass P H K K1 i) : CorePass P H K (fun x => K1 x ∧ cjS P K1 (unitV P.orders.length i) x) (i + 1) := by
 obtain ⟨⟨s1, s2, s3⟩, h2, h3⟩ := h
 have hu := unitV_vec G.v i
 refine ⟨⟨s1.and (G.cj_sub s1 hu), fun x hx => s2 x hx.1, fun x hx => ⟨s3 x hx, G.norm_cj G.core_norm (fun _ h => h.1) s3 hu x hx⟩⟩, fun x hx => h2 x hx.1, fun j hj x hx => ?_⟩
 rcases Nat.lt_succ_iff_lt_or_eq.1 hj with h | h
 ·exact h3 j h x hx.1
 ·rw [h]; exact cj_mono h2 hx.2
theorem Grp.corePass_end {H K K1 : List Int → Prop} (S : Sub P K) (h : CorePass P H K K1 P.orders.length) (he : (cseq P K1).length = (cseq P K).length) : NormP P K ∧ ∀ x, K x → K1 x := by
 have hb := (G.len_le h.1.1 S h.2.1).2 he
 exact ⟨G.norm_of_cj S (fun j hj x hx => h.2.2 j hj x (hb x hx)), hb⟩
omit G in
theorem core_done {H K : List Int → Prop} (h : CoreSt P H K) (hN : NormP P K) : K = coreP P H :=
 funext fun x => propext ⟨fun hx => ⟨h.1.vec x hx, fun g hg => h.2.1 _ (hN x hx g hg)⟩, h.2.2 x⟩
theorem Grp.core_start {H : List Int → Prop} (S : Sub P H) : CoreSt P H H := ⟨S, fun _ h => h, fun x h => G.core_le x h⟩
end
set_option maxRecDepth 100000 in
set_option maxHeartbeats 4000000 in
theorem core_ok (P : Pr) (G : Grp P) (w : World) (p uv : Value) (H : List Int → Prop) (Sp Su : Nat → Prop) (S : Sub P H) (hp : PresP Sp w p P) (hu : Rows2 Su w uv (cseq P H)) :
  Calls Tryz.prog 171 #[p, uv] w (Ret w fun w' v => RowsO w.heap.size w' v (cseq P (coreP P H))) := by
 have hP := G.v
 have hn6 := hP.n6
 obtain ⟨pb, po, rfl⟩ := hp.shape
 have hu0 : Rows2 Any w uv (cseq P H) := Rows2.sub hu (fun _ _ _ => trivial)
 obtain ⟨au, capu, rfl, _, _⟩ := Sl.shape hu
 have HS := Lib.hid S; clear hu
 go_enter Tryz.func171, Tryz.ntmps171
 go_wp2
 go_loopg [1] ((cseq P H).length) (fun gk uv wr => ∃ (K : List Int → Prop), gk = (cseq P K).length ∧ Ext w wr ∧ Rows2 Any wr uv (cseq P K) ∧ Hid (CoreSt P H K))
 case atStart => exact ⟨H, rfl, Ext.refl _, hu0, Lib.hid (G.core_start HS.out)⟩
 case round =>
  clear hu0
  obtain ⟨K, hgk, hg, hu, hK⟩ := hrel
  have hl := G.cseq_len hK.out.1
  obtain ⟨ak, capk, hvk, _, _⟩ := Sl.shape hu
  subst hvk
  have HGK := Lib.hid hgk; clear hgk
  go_wp2_with fail
  refine Calls.mono (isNormal_ok P G wr _ _ K Sp Any hK.out.1 (hp.ext hg) hu) ?_
  rintro e1 w1 ⟨v1, rfl, hg1, r1, rfl, hr1⟩
  have hgw1 := grown_trans hg hg1
  cases r1 with
  | true =>
   have hN := (G.norm_iff hK.out.1).1 (hr1.1 rfl)
   have hE := core_done hK.out hN
   have hV : ∀ x ∈ cseq P K, x.length ≤ 1000000 := fun x hx => by rw [(hK.out.1.vec x ((G.seq_facts hK.out.1).2.1 x hx)).1]; omega
   have HE := Lib.hid (And.intro hE hV); clear hE hN hr1 hV
   go_wp2_with fail
   refine Calls.mono (copyRows_ok w1 _ (cseq P K) Any (Rows2.ext hu hg1) HE.out.2 (by omega)) ?_
   rintro e2 w2 ⟨v2, rfl, hg2, hO2⟩
   rw [HE.out.1] at hO2
   go_wp2
   go_ret
   exact ⟨_, rfl, grown_trans hgw1 hg2, hO2.weak hgw1.size⟩
  | false =>
   have hno : ¬ NormP P K := fun h => by have := hr1.2 ((G.norm_iff hK.out.1).2 h); cases this
   have HNO := Lib.hid hno; clear hno hr1
   go_wp2_with fail
   refine Calls.mono (generators_ok P hP w1 _ Sp (hp.ext hgw1)) ?_
   rintro e2 w2 ⟨v2, rfl, hg2, hO2⟩
   have hgl := gensOf_len P.orders.length
   have hgR := RowsD.rows (SlO.toD hO2 (by omega))
   obtain ⟨ag, capg, hvg, _, _⟩ := Sl.shape hgR
   rw [hgl] at hvg
   subst hvg
   have HGL := Lib.hid hgl; clear hgl hO2
   have hgw2 := grown_trans hgw1 hg2
   have hu2 := Rows2.ext (Rows2.ext hu hg1) hg2
   clear hu
   go_wp2
   go_loopw [1, 14] (fun uv iv wr => ∃ (i : Nat) (K1 : List Int → Prop), iv = .int .i64 i ∧ i ≤ P.orders.length ∧ Ext w2 wr ∧ Rows2 Any wr uv (cseq P K1) ∧ Hid (CorePass P H K K1 i)) (fun _ iv _ => P.orders.length - (intOf iv).toNat)
   case atStart => exact ⟨0, K, rfl, by omega, Ext.refl _, hu2, Lib.hid ⟨hK.out, fun _ h => h, fun j hj => by omega⟩⟩
   case round =>
    clear hu2
    obtain ⟨i, K1, rfl, hi, hgi, hui, hC⟩ := hrel
    have hl1 := G.cseq_len hC.out.1.1
    obtain ⟨a1, cap1, hv1, _, _⟩ := Sl.shape hui
    subst hv1
    have hgwi := grown_trans hgw2 hgi
    by_cases hlt : i < P.orders.length
    ·have hlt' : (i : Int) < P.orders.length := by omega
     obtain ⟨bb, off, ax, capx, rfl, _, _, hc, hr⟩ := Rows2.at hgR i (by rw [HGL.out]; exact hlt)
     have hcr := hgi.cell hc (by simp)
     have hge := gensOf_at P.orders.length i hlt
     rw [hge] at hcr hr
     have hxV := unitV_vec hP i
     have hst := G.corePass_step hC.out
     have hcj := G.genP_conjL hC.out.1.1 hxV
     have hLV : ∀ y ∈ cseq P K1, Vec P.orders y := fun y hy => hC.out.1.1.vec y ((G.seq_facts hC.out.1.1).2.1 y hy)
     obtain ⟨g, hgg⟩ : ∃ g, g = unitV P.orders.length i := ⟨_, rfl⟩
     rw [← hgg] at hcr hr hxV hst hcj
     have HI := Lib.hid (And.intro hxV (And.intro hst (And.intro hcj hLV))); clear hxV hst hcj hLV hgg hge hc
     go_wp2_with fail
     clear hcr
     refine Calls.mono (conjugateSubgroup_ok P G wr _ _ _ (cseq P K1) g Sp Any _ (hp.ext hgwi) hui HI.out.2.2.2 (by omega) (Ints.ext hr hgi) HI.out.1) ?_
     rintro e3 w3 ⟨v3, rfl, hg3, hO3⟩
     rw [HI.out.2.2.1] at hO3
     have hSc := G.cj_sub hC.out.1.1 HI.out.1
     have hlc := G.cseq_len hSc
     have hR3 := RowsD.rows (SlO.toD hO3 (by omega))
     obtain ⟨a3, cap3, hv3, _, _⟩ := Sl.shape hR3
     subst hv3
     have hgw3 := grown_trans hgwi hg3
     clear hO3
     go_wp2_with fail
     refine Calls.mono (meet_ok P G w3 _ _ _ K1 (cjS P K1 g) Sp Any _ hC.out.1.1 hSc (hp.ext hgw3) (Rows2.ext hui hg3) hR3) ?_
     rintro e4 w4 ⟨v4, rfl, hg4, hO4⟩
     have hlm := G.cseq_len (hC.out.1.1.and hSc)
     have hR4 : Rows2 Any w4 v4 (cseq P (fun x => K1 x ∧ cjS P K1 g x)) := Rows2.sub (RowsD.rows (SlO.toD hO4 (by omega))) (fun _ _ _ => trivial)
     clear hO4 hR3 hSc
     go_wp2
     go_roundw
     case rel => exact ⟨i + 1, _, by go_num, by omega, grown_trans hgi (grown_trans hg3 hg4), hR4, Lib.hid HI.out.2.1⟩
     case measure => simp [intOf]; omega
    ·have hie : i = P.orders.length := by omega
     have hlt2 : (cseq P K1).length < gk := by
      have h1 := (G.len_le hC.out.1.1 hK.out.1 hC.out.2.1).1
      have h2 : (cseq P K1).length ≠ (cseq P K).length := fun h => HNO.out (G.corePass_end hK.out.1 (by rw [← hie]; exact hC.out) h).1
      have := HGK.out
      omega
     have HLT := Lib.hid hlt2; clear hlt2
     subst hie
     go_wp2
     go_roundg ((cseq P K1).length)
     case measure => exact HLT.out
     case rel => exact ⟨K1, rfl, hgwi, hui, Lib.hid hC.out.1⟩
end Go.Proofs.YtdcobapnlpeaaaaGreat
namespace Go.Proofs.YtdcobapnlpeaaaaGreat
open Go.RowKit
set_option maxRecDepth 100000 in
set_option maxHeartbeats 2000000 in
theorem l02Unit_ok (n : Nat) (w : World) (hn : n ≤ 6) : Calls Tryz.prog 251 #[.int .i64 n] w (Ret w fun w' v => Rows2 Any w' v (gensOf n)) := by
 have hgl := gensOf_len n
 have HGL := Lib.hid hgl; clear hgl
 go_enter Tryz.func251, Tryz.ntmps251
 go_wp2
 go_loopw [3, 4] (fun ov iv wr => ∃ (k : Nat) (v4 : Value), v4 = ov ∧ iv = .int .i64 k ∧ k ≤ n ∧ Ext w wr ∧ RowsO w.heap.size wr v4 ((gensOf n).take k)) (fun _ iv _ => n - (intOf iv).toNat)
 case atStart => exact ⟨0, _, rfl, rfl, by omega, World.grownBy_alloc _ _ _, [], fun _ _ => False, rfl, World.ownsRow_lit w #[] 0 (Nat.le_refl _) (by decide) rfl, by simp, by simp, by simp⟩
 case round =>
  obtain ⟨k, v4, rfl, rfl, hk, hg, hO⟩ := hrel
  by_cases hlt : k < n
  ·have hlt' : (k : Int) < n := by omega
   have hstep : (gensOf n).take (k + 1) = (gensOf n).take k ++ [unitV n k] := by rw [take_succ_gt _ k (by rw [HGL.out]; exact hlt), gensOf_at n k hlt]
   have htl : ((gensOf n).take k).length ≤ 1000000 := by rw [List.length_take]; omega
   have hul : (unitV n k).length = n := by simp [unitV]
   have HST := Lib.hid (And.intro hstep (And.intro htl hul)); clear hstep htl hul
   go_wp2_with (first
    | (at_make; refine wp_make_ints rfl _ _ rfl wr.heap.size n wr.heap.size rfl _ rfl rfl rfl (by omega) (Nat.le_refl _) ?_; intro w1 ho1 hg1 hlt1; have hc := ho1.cell k (by simp; omega); have hf := ho1.frozen k)
    | (at_builtin; go_must (refine wp_app_row rfl _ _ rfl w.heap.size wr _ v4 _ ((gensOf n).take k) (unitV n k) rfl hO (grown_own hg1 (ho1.store k 1).2 (fun j hj hlt => by cases hj; omega)) (OwnIn.of (base := wr.heap.size) (F := From wr.heap.size) (l := unitV n k) (ho1.store k 1).1 (by have := HST.out.2.2; omega) (fun j h1 _ => h1)) rfl (congrArg (fun z => Value.slice (some ⟨z, 0, none⟩) 1 1) (show w1.heap.size = (w1.setCell ⟨wr.heap.size, k, none⟩ (.int .i64 1)).heap.size by simp [World.setCell])) HST.out.2.1 hg.size ?_); intro v5 w5 hO5 hg5 hg6; have hgw5 := hO.extw hg (Nat.le_refl _) hg5)
    | fail)
   go_roundw
   case rel => exact ⟨k + 1, v5, rfl, by go_num, by omega, hgw5, by rw [HST.out.1]; exact hO5⟩
   case measure => simp [intOf]; omega
  ·have hke : k = n := by omega
   subst hke
   rw [List.take_of_length_le (by rw [HGL.out]; exact Nat.le_refl _)] at hO
   have hR := RowsD.rows (hO.toD (by rw [HGL.out]; omega))
   obtain ⟨az, capz, hvz, _, _⟩ := Sl.shape hR
   subst hvz
   go_wp2
   go_ret
   exact ⟨_, rfl, hg, Rows2.sub hR (fun _ _ _ => trivial)⟩
theorem l12Whole_ok (P : Pr) (hP : Valid P) (w : World) (pv : Value) (Sp : Nat → Prop) (hpv : PresV Sp w pv P) :
  Calls Tryz.prog 170 #[pv] w (Ret w fun w' v => Rows2 Any w' v (gensOf P.orders.length)) := by
 obtain ⟨vo, vp, vc, rfl, h3⟩ := hpv
 have hp0 := PresP.box h3 28
 have hg0 : Ext w (w.alloc (.cells #[vo, vp, vc] 28)) := World.grownBy_alloc _ _ _
 have hn6 := hP.n6
 obtain ⟨ao, capo, hco, hoi⟩ := hp0.ordAt
 go_enter Tryz.func170, Tryz.ntmps170
 go_wp2_with fail
 refine Calls.mono (l02Unit_ok P.orders.length _ hn6) ?_
 rintro e1 w1 ⟨v1, rfl, hg1, hR⟩
 have hgl := gensOf_len P.orders.length
 have HGL := Lib.hid hgl; clear hgl
 obtain ⟨az, capz, hvz, _, _⟩ := Sl.shape hR
 subst hvz
 go_wp2
 go_ret
 exact ⟨_, rfl, grown_trans hg0 hg1, hR⟩
end Go.Proofs.YtdcobapnlpeaaaaGreat
namespace Go.Proofs.YtdcobapnlpeaaaaGreat
open Go.RowKit
def oneOk (P : Pr) (U : List (List Int)) : Prop := rconsB P = true ∧ SubB P U
open Classical in
noncomputable def ncC (P : Pr) (U : List (List Int)) : Int := if oneOk P U then 0 else 1
open Classical in
noncomputable def ncL (P : Pr) (U : List (List Int)) : List (List Int) := if oneOk P U then cseq P (coreP P (gU P U)) else []
theorem nc_bad {P : Pr} {U : List (List Int)} (h : ¬ oneOk P U) : ncC P U = 1 ∧ ncL P U = [] := by
 unfold ncC ncL; rw [if_neg h, if_neg h]; exact ⟨rfl, rfl⟩
theorem nc_ok {P : Pr} {U : List (List Int)} (h : oneOk P U) : ncC P U = 0 ∧ ncL P U = cseq P (coreP P (gU P U)) := by
 unfold ncC ncL; rw [if_pos h, if_pos h]; exact ⟨rfl, rfl⟩
theorem ncL_len (P : Pr) (U : List (List Int)) : (ncL P U).length ≤ 729 := by
 by_cases h : oneOk P U
 ·have G := grp_of_r h.1
  rw [(nc_ok h).2]
  have h1 : (cseq P (coreP P (gU P U))).length ≤ P.orders.length := G.cseq_len (G.core_sub (G.subB h.2))
  have := G.v.n6
  omega
 ·rw [(nc_bad h).2]; simp
set_option maxRecDepth 100000 in
set_option maxHeartbeats 4000000 in
theorem iNCore_ok (P : Pr) (w : World) (pv uv : Value) (U : List (List Int)) (Sp Su : Nat → Prop) (hpv : PresV Sp w pv P) (hu : Rows2 Su w uv U) :
  Calls Tryz.prog 71 #[pv, uv] w (Ret w fun w' v => ∃ a n c, v = .tuple #[.slice a n c, .int .i64 (ncC P U)] ∧ RowsO w.heap.size w' (.slice a n c) (ncL P U)) := by
 obtain ⟨vo, vp, vc, rfl, h3⟩ := hpv
 have hp0 := PresP.box h3 28
 have hg0 : Ext w (w.alloc (.cells #[vo, vp, vc] 28)) := World.grownBy_alloc _ _ _
 have hs0 : (w.alloc (.cells #[vo, vp, vc] 28)).heap.size = w.heap.size + 1 := by simp
 have hu0 := Rows2.ext hu hg0
 obtain ⟨au, capu, rfl, _, _⟩ := Sl.shape hu
 have hg1 : Ext (w.alloc (.cells #[vo, vp, vc] 28)) ((w.alloc (.cells #[vo, vp, vc] 28)).alloc (.cells #[.slice au U.length capu] 25)) := World.grownBy_alloc _ _ _
 have hl := rows3One hu0
 have hcon := areSubgroups_ok P _ _ _ [U] Any Any (hp0.ext hg1) hl
 rw [hs0] at hcon
 clear hl hu
 go_enter Tryz.func71, Tryz.ntmps71
 go_wp2_with fail
 refine Calls.mono hcon ?_
 rintro e1 w1 ⟨v1, rfl, hgA, r1, rfl, hr1⟩
 clear hcon
 have hr1 : r1 = true ↔ oneOk P U := by rw [hr1]; unfold oneOk; simp
 have hg01 := grown_trans hg1 hgA
 have HS := Lib.hid hs0; clear hs0
 generalize hw0 : w.alloc (.cells #[vo, vp, vc] 28) = w0 at *
 clear hw0 hg1 hgA
 cases r1 with
 | false =>
  obtain ⟨hc, hL⟩ := nc_bad (P := P) (U := U) (fun h => by have := hr1.2 h; cases this)
  have HC := Lib.hid (And.intro hc hL); clear hc hL hr1
  go_wp2
  go_ret2
  exact ⟨_, rfl, grown_trans hg0 hg01, none, 0, 0, by rw [HC.out.1]; rfl, by rw [HC.out.2]; exact SlO.nil _ _ _ _⟩
 | true =>
  have hok := hr1.1 rfl
  have G := grp_of_r hok.1
  obtain ⟨hc, hL⟩ := nc_ok hok
  have hU := hok.2.2
  have hml := ncL_len P U
  have HC := Lib.hid (And.intro hc (And.intro hL hok)); clear hc hL hr1 hok
  have hu1 : Rows2 Su w1 (.slice au U.length capu) (cseq P (gU P U)) := by rw [← hU]; exact Rows2.ext hu0 hg01
  have HUV := Lib.hid hU; clear hU
  go_wp2_with fail
  refine Calls.mono (core_ok P G w1 _ _ (gU P U) Any Su (G.subB HC.out.2.2.2) (hp0.ext hg01) hu1) ?_
  rintro e2 w2 ⟨v2, rfl, hg2, hO⟩
  rw [← HC.out.2.1] at hO
  obtain ⟨az, capz, hvz, _, _⟩ := SlD.shape (hO.toD (by omega))
  subst hvz
  have hs1 := hg01.size
  go_wp2
  go_ret2
  exact ⟨_, rfl, grown_trans hg0 (grown_trans hg01 hg2), _, _, _, by rw [HC.out.1]; rfl, hO.weak (by have := HS.out; omega)⟩
end Go.Proofs.YtdcobapnlpeaaaaGreat
namespace Go.Proofs.YtdcobapnlpeaaaaGreat
def stP (P : Pr) (H : List Int → Prop) (B : List (List Int)) (x : List Int) : Prop := ∀ K, Sub P K → (∀ y, H y → K y) → (∀ b ∈ B, ∀ y, K y → K (rConj P y b)) → K x
def allC (P : Pr) (L B : List (List Int)) : Nat → List (List Int)
 | 0 => L
 | j + 1 => allC P L B j ++ conjL P L (gt B j)
theorem conjL_len (P : Pr) (L : List (List Int)) (X : List Int) : (conjL P L X).length = L.length := by unfold conjL; rw [List.length_map]
theorem allC_len (P : Pr) (L B : List (List Int)) (j : Nat) : (allC P L B j).length = L.length * (j + 1) := by
 induction j with
 | zero => simp [allC]
 | succ j ih => rw [allC, List.length_append, ih, conjL_len, Nat.mul_succ L.length (j + 1)]
theorem allC_mem {P : Pr} {L B : List (List Int)} {j : Nat} {x : List Int} : x ∈ allC P L B j ↔ x ∈ L ∨ ∃ k, k < j ∧ x ∈ conjL P L (gt B k) := by
 induction j with
 | zero => simp [allC]
 | succ j ih =>
  rw [allC, List.mem_append, ih]
  constructor
  ·rintro ((h | ⟨k, hk, h⟩) | h)
   ·exact Or.inl h
   ·exact Or.inr ⟨k, by omega, h⟩
   ·exact Or.inr ⟨j, by omega, h⟩
  ·rintro (h | ⟨k, hk, h⟩)
   ·exact Or.inl (Or.inl h)
   ·rcases Nat.lt_succ_iff_lt_or_eq.1 hk with h1 | h1
    ·exact Or.inl (Or.inr ⟨k, h1, h⟩)
    ·exact Or.inr (h1 ▸ h)
def StSt (P : Pr) (H : List Int → Prop) (B : List (List Int)) (K : List Int → Prop) : Prop := Sub P K ∧ (∀ x, H x → K x) ∧ ∀ x, K x → stP P H B x
section
variable {P : Pr} (G : Grp P)
include G
theorem Grp.vecSub : Sub P (Vec P.orders) := ⟨fun _ h => h, G.oneV, fun _ _ a b => G.mulV a b, fun _ a => G.invV a⟩
theorem Grp.stP_sub {H : List Int → Prop} (S : Sub P H) {B : List (List Int)} (hB : ∀ b ∈ B, Vec P.orders b) : Sub P (stP P H B) :=
 ⟨fun _ h => h _ G.vecSub S.vec (fun b hb _ hy => G.conjV hy (hB b hb)), fun _ hK _ _ => hK.one,
  fun _ _ hx hy K hK hH hC => hK.mul _ _ (hx K hK hH hC) (hy K hK hH hC), fun _ hx K hK hH hC => hK.inv _ (hx K hK hH hC)⟩
theorem Grp.allC_vec {K : List Int → Prop} (S : Sub P K) {B : List (List Int)} (hB : ∀ b ∈ B, Vec P.orders b) (j : Nat) (hj : j ≤ B.length) : ∀ x ∈ allC P (cseq P K) B j, Vec P.orders x := by
 have hf := (G.seq_facts S).2.1
 intro x hx
 rcases allC_mem.1 hx with h | ⟨k, hk, h⟩
 ·exact S.vec x (hf x h)
 ·unfold conjL at h
  obtain ⟨y, hy, rfl⟩ := List.mem_map.1 h
  exact G.conjV (S.vec y (hf y hy)) (hB _ (gtMem (by omega)))
omit G in
theorem stP_conj {H : List Int → Prop} {B : List (List Int)} {b x : List Int} (hb : b ∈ B) (h : stP P H B x) : stP P H B (rConj P x b) := fun K hK hH hC => hC b hb _ (h K hK hH hC)
theorem Grp.st_round {H K : List Int → Prop} (S : Sub P H) {B : List (List Int)} (hB : ∀ b ∈ B, Vec P.orders b) (h : StSt P H B K) :
  StSt P H B (genP P (fun z => z ∈ allC P (cseq P K) B B.length)) ∧ (∀ x, K x → genP P (fun z => z ∈ allC P (cseq P K) B B.length) x) ∧
   ∀ b ∈ B, ∀ y, K y → genP P (fun z => z ∈ allC P (cseq P K) B B.length) (rConj P y b) := by
 obtain ⟨s1, s2, s3⟩ := h
 have hf := (G.seq_facts s1).2.1
 have S2 := G.genP_sub (Q := fun z => z ∈ allC P (cseq P K) B B.length) (G.allC_vec s1 hB _ (Nat.le_refl _))
 have hK : ∀ x, K x → genP P (fun z => z ∈ allC P (cseq P K) B B.length) x := fun x hx => by
  have h1 : genP P (fun z => z ∈ cseq P K) x := by rw [G.genP_cseq s1]; exact hx
  exact h1 _ S2 (fun z hz => genP_mem (allC_mem.2 (Or.inl hz)))
 refine ⟨⟨S2, fun x hx => hK x (s2 x hx), fun x hx => hx _ (G.stP_sub S hB) (fun z hz => ?_)⟩, hK, fun b hb y hy => ?_⟩
 ·rcases allC_mem.1 hz with h | ⟨k, hk, h⟩
  ·exact s3 z (hf z h)
  ·unfold conjL at h
   obtain ⟨y, hy, rfl⟩ := List.mem_map.1 h
   exact stP_conj (gtMem hk) (s3 y (hf y hy))
 ·have h1 : genP P (fun z => z ∈ cseq P K) y := by rw [G.genP_cseq s1]; exact hy
  obtain ⟨k, hk, rfl⟩ := mem_gt hb
  exact (h1 _ (G.pull_sub S2 (hB _ hb)) (fun z hz => ⟨s1.vec z (hf z hz), genP_mem (allC_mem.2 (Or.inr ⟨k, hk, List.mem_map.2 ⟨z, hz, rfl⟩⟩))⟩)).2
theorem Grp.st_end {H K : List Int → Prop} (S : Sub P H) {B : List (List Int)} (hB : ∀ b ∈ B, Vec P.orders b) (h : StSt P H B K) :
  (cseq P K).length ≤ (cseq P (genP P (fun z => z ∈ allC P (cseq P K) B B.length))).length ∧
  ((cseq P (genP P (fun z => z ∈ allC P (cseq P K) B B.length))).length = (cseq P K).length → genP P (fun z => z ∈ allC P (cseq P K) B B.length) = stP P H B) := by
 obtain ⟨r1, r2, r3⟩ := G.st_round S hB h
 have hl := G.len_le h.1 r1.1 r2
 refine ⟨hl.1, fun he => ?_⟩
 have hb := hl.2 he.symm
 exact funext fun x => propext ⟨r1.2.2 x, fun hx => hx _ r1.1 r1.2.1 (fun b hbm y hy => r3 b hbm y (hb y hy))⟩
end
end Go.Proofs.YtdcobapnlpeaaaaGreat
namespace Go.Proofs.YtdcobapnlpeaaaaGreat
open Go.RowKit
set_option maxRecDepth 100000 in
set_option maxHeartbeats 4000000 in
theorem l13Stable_ok (P : Pr) (G : Grp P) (w : World) (pv uv bv : Value) (H : List Int → Prop) (B : List (List Int)) (Sp Su Sb : Nat → Prop) (S : Sub P H) (hpv : PresV Sp w pv P) (hu : Rows2 Su w uv (cseq P H)) (hb : Rows2 Sb w bv B) (hB : ∀ b ∈ B, Vec P.orders b) (hBl : B.length ≤ 100) :
  Calls Tryz.prog 169 #[pv, uv, bv] w (Ret w fun w' v => Rows2 Any w' v (cseq P (stP P H B))) := by
 have hP := G.v
 have hn6 := hP.n6
 obtain ⟨vo, vp, vc, rfl, h3⟩ := hpv
 have hp0 := PresP.box h3 28
 have hg0 : Ext w (w.alloc (.cells #[vo, vp, vc] 28)) := World.grownBy_alloc _ _ _
 have hu0 : Rows2 Any (w.alloc (.cells #[vo, vp, vc] 28)) uv (cseq P H) := Rows2.sub (Rows2.ext hu hg0) (fun _ _ _ => trivial)
 have hb0 := Rows2.ext hb hg0
 obtain ⟨au, capu, rfl, _, _⟩ := Sl.shape hu
 obtain ⟨ab, capb, rfl, _, _⟩ := Sl.shape hb
 obtain ⟨vo6, vp6, vc6, _, _, hc0, hc1, hc2, h36⟩ := hp0.at
 simp only [Nat.zero_add] at hc1 hc2
 have hbx : ∀ w', Ext (w.alloc (.cells #[vo, vp, vc] 28)) w' → w'.cell? ⟨w.heap.size, 0, none⟩ = some vo6 ∧ w'.cell? ⟨w.heap.size, 1, none⟩ = some vp6 ∧ w'.cell? ⟨w.heap.size, 2, none⟩ = some vc6 := fun w' h => ⟨h.cell hc0 (by simp), h.cell hc1 (by simp), h.cell hc2 (by simp)⟩
 have HB := Lib.hid hbx; clear hbx hp0 hu hb
 have HS := Lib.hid (And.intro S hB); clear hB
 go_enter Tryz.func169, Tryz.ntmps169
 go_wp2
 clear hc0 hc1 hc2
 generalize hw0 : w.alloc (.cells #[vo, vp, vc] 28) = w0 at *
 clear hw0
 go_loopg [7] (P.orders.length - (cseq P H).length) (fun gk uv wr => ∃ (K : List Int → Prop), gk = P.orders.length - (cseq P K).length ∧ Ext w0 wr ∧ Rows2 Any wr uv (cseq P K) ∧ Hid (StSt P H B K))
 case atStart => exact ⟨H, rfl, Ext.refl _, hu0, Lib.hid ⟨HS.out.1, fun _ h => h, fun x h K _ hH _ => hH x h⟩⟩
 case round =>
  clear hu0
  obtain ⟨K, hgk, hg, hu, hK⟩ := hrel
  have hl := G.cseq_len hK.out.1
  obtain ⟨ak, capk, hvk, _, _⟩ := Sl.shape hu
  subst hvk
  have hKV : ∀ y ∈ cseq P K, Vec P.orders y := fun y hy => hK.out.1.vec y ((G.seq_facts hK.out.1).2.1 y hy)
  have hK6 : ∀ x ∈ cseq P K, x.length ≤ 1000000 := fun x hx => by rw [(hKV x hx).1]; omega
  have HGK := Lib.hid (And.intro hgk (And.intro hKV hK6)); clear hgk hKV hK6
  obtain ⟨wo, rfl⟩ : ∃ wo : World, wo = wr := ⟨_, rfl⟩
  go_wp2_with fail
  refine Calls.mono (l01Own2_ok wo _ (cseq P K) Any hu HGK.out.2.2 (by omega)) ?_
  rintro e2 w2 ⟨v2, rfl, hg2, hO2⟩
  have hQ2 : ShQ (fun _ => False) wo.heap.size w2 v2 (allC P (cseq P K) B 0) := hO2.shq (fun k h => h.elim)
  obtain ⟨a2, cap2, hv2, _, _⟩ := SlD.shape (hO2.toD (by omega))
  subst hv2
  clear hO2
  go_wp2
  go_loopw [8, 9] (fun nv jv wr => ∃ (j : Nat) (v8 : Value), v8 = nv ∧ jv = .int .i64 j ∧ j ≤ B.length ∧ Ext wo wr ∧ ShQ (fun _ => False) wo.heap.size wr v8 (allC P (cseq P K) B j)) (fun _ jv _ => B.length - (intOf jv).toNat)
  case atStart => exact ⟨0, _, rfl, rfl, by omega, hg2, hQ2⟩
  case round =>
   clear hQ2
   obtain ⟨j, v8, rfl, rfl, hj, hgj, hQ⟩ := hrel
   by_cases hlt : j < B.length
   ·have hlt' : (j : Int) < B.length := by omega
    go_wp2
    go_loopw [8, 10] (fun nv iv wr => ∃ (i : Nat) (v8 : Value), v8 = nv ∧ iv = .int .i64 i ∧ i ≤ (cseq P K).length ∧ Ext wo wr ∧ ShQ (fun _ => False) wo.heap.size wr v8 (allC P (cseq P K) B j ++ (conjL P (cseq P K) (gt B j)).take i)) (fun _ iv _ => (cseq P K).length - (intOf iv).toNat)
    case atStart => exact ⟨0, _, rfl, rfl, by omega, hgj, by simpa using hQ⟩
    case round =>
     clear hQ
     obtain ⟨i, v8, rfl, rfl, hi, hgi, hQ⟩ := hrel
     by_cases hlti : i < (cseq P K).length
     ·have hlti' : (i : Int) < (cseq P K).length := by omega
      obtain ⟨b1, o1, a1, c1, rfl, _, _, hcu, hru⟩ := Rows2.at hu i hlti
      obtain ⟨b3, o3, a3, c3, rfl, _, _, hcb, hrb⟩ := Rows2.at hb0 j hlt
      have hg0o : Ext w0 wo := hg
      have hcb := hg0o.cell hcb (by simp)
      have hrb := Ints.ext hrb hg0o
      have hyV := HGK.out.2.1 _ (gtMem hlti)
      have hbV := HS.out.2 _ (gtMem hlt)
      have hcl := conjL_len P (cseq P K) (gt B j)
      have hstep : (conjL P (cseq P K) (gt B j)).take (i + 1) = (conjL P (cseq P K) (gt B j)).take i ++ [rConj P (gt (cseq P K) i) (gt B j)] := by
       rw [take_succ_gt _ i (by rw [hcl]; exact hlti)]
       unfold conjL
       rw [gt_map _ _ _ hlti]
      have htl : (allC P (cseq P K) B j ++ (conjL P (cseq P K) (gt B j)).take i).length ≤ 1000000 := by
       rw [List.length_append, allC_len, List.length_take, hcl]
       have h1 : (cseq P K).length * (j + 1) ≤ 6 * 101 := Nat.mul_le_mul (by omega) (by omega)
       omega
      have hcV := G.conjV hyV hbV
      have hqlt : ∀ k, v8.ownBlock = some k → wo.heap.size ≤ k := fun k hk => (hQ.lt k hk).1
      obtain ⟨xs, hxs⟩ : ∃ xs, xs = allC P (cseq P K) B j ++ (conjL P (cseq P K) (gt B j)).take i := ⟨_, rfl⟩
      have hstep2 : allC P (cseq P K) B j ++ (conjL P (cseq P K) (gt B j)).take (i + 1) = xs ++ [rConj P (gt (cseq P K) i) (gt B j)] := by rw [hstep, hxs, List.append_assoc]
      rw [← hxs] at hQ htl
      have HST := Lib.hid (And.intro hstep2 (And.intro hyV (And.intro htl (And.intro hcV hbV)))); clear hstep hstep2 hyV htl hcV hbV hcl hxs
      have f1 : ∀ w', Ext wo w' → w'.cell? ⟨w.heap.size, 0, none⟩ = some vo6 := fun w' h => (HB.out w' (grown_trans hg h)).1
      have f2 : ∀ w', Ext wo w' → w'.cell? ⟨w.heap.size, 1, none⟩ = some vp6 := fun w' h => (HB.out w' (grown_trans hg h)).2.1
      have f3 : ∀ w', Ext wo w' → w'.cell? ⟨w.heap.size, 2, none⟩ = some vc6 := fun w' h => (HB.out w' (grown_trans hg h)).2.2
      have f4 : ∀ w', Ext wo w' → w'.cell? ⟨b1, o1 + i, none⟩ = some (.slice a1 (gt (cseq P K) i).length c1) := fun w' h => h.cell hcu (by simp)
      have f5 : ∀ w', Ext wo w' → w'.cell? ⟨b3, o3 + j, none⟩ = some (.slice a3 (gt B j).length c3) := fun w' h => h.cell hcb (by simp)
      clear hcu hcb
      go_wp2
      go_region_held3 (fun w' => Ext wo w') (first | exact grown_trans hgi (grown_drew _ _) | assumption | exact grown_trans hgC (World.grownBy_alloc _ _ _))
       (first
        | (go_at_call 150; refine Calls.mono (Calls.rel2 (w0 := wo) (by assumption) (l10Conj_ok P hP _ _ _ _ (gt (cseq P K) i) (gt B j) Any Any Any ⟨_, _, _, rfl, Pres3.ext h36 (grown_trans hg (by assumption))⟩ (Ints.sub (Ints.ext hru (by assumption)) (fun _ _ _ => trivial)) (Ints.sub (Ints.ext hrb (by assumption)) (fun _ _ _ => trivial)) HST.out.2.1 HST.out.2.2.2.2)) ?_; rintro eC wC ⟨vC, rfl, hgC, hgC2, hsC, hOC⟩; have hgrC : Ext wr wC := grown_trans (grown_drew _ _) hgC2; have hCI : Ints (fun k => ¬ False ∧ v8.ownBlock ≠ some k) wC vC (rConj P (gt (cseq P K) i) (gt B j)) := ints_of_own hOC (by rw [HST.out.2.2.2.1.1]; omega) (fun k hk => ⟨id, fun e => by have h1 := (hOC.lt k hk).1; have h2 := (hQ.lt k e).2; have h3 : wr.heap.size ≤ wr.drew.heap.size := (grown_drew wr none).size; omega⟩); obtain ⟨aC, capC, hvC, _, _⟩ := hCI.shape; subst hvC)
        | (refine step_shq_app rfl _ _ rfl (fun _ => False) wo.heap.size v8 _ xs _ rfl wC (hQ.ext hgrC) rfl hCI rfl HST.out.2.2.1 hgC.size ?_; intro v5 w5 hQ5 hg5 hb5; have hgw5 : Ext wo w5 := grown_own hgC hg5 (fun k hk hlt => by have := hqlt k hk; omega)))
      clear f1 f2 f3 f4 f5
      rw [← HST.out.1] at hQ5
      go_wp2
      go_roundw
      case rel => exact ⟨i + 1, v5, rfl, by go_num, by omega, hgw5, hQ5⟩
      case measure => simp [intOf]; omega
     ·have hie : i = (cseq P K).length := by omega
      subst hie
      rw [List.take_of_length_le (by rw [conjL_len]; exact Nat.le_refl _)] at hQ
      go_wp2
      go_roundw
      case rel => exact ⟨j + 1, v8, rfl, by go_num, by omega, hgi, hQ⟩
      case measure => simp [intOf]; omega
   ·have hje : j = B.length := by omega
    subst hje
    have hw0r := grown_trans hg hgj
    obtain ⟨hb0', hb1, hb2⟩ := HB.out wr hw0r
    have hQR := hQ.rows
    obtain ⟨aq, capq, hvq, _, _⟩ := Sl.shape hQR
    subst hvq
    have hal := allC_len P (cseq P K) B B.length
    have hal2 : (allC P (cseq P K) B B.length).length ≤ 10000 := by
     have h1 : (cseq P K).length * (B.length + 1) ≤ 6 * 101 := Nat.mul_le_mul (by omega) (by omega)
     omega
    have hend := G.st_end HS.out.1 HS.out.2 hK.out
    have hrd := G.st_round HS.out.1 HS.out.2 hK.out
    have hlc := G.cseq_len hrd.1.1
    have HE := Lib.hid (And.intro hend (And.intro hrd (And.intro hal2 hlc))); clear hend hrd hal hal2 hlc
    go_wp2_with fail
    clear hb0' hb1 hb2
    refine Calls.mono (l12Close_ok P G wr _ _ (allC P (cseq P K) B B.length) Any Any ⟨_, _, _, rfl, Pres3.ext h36 hw0r⟩ hQR (G.allC_vec hK.out.1 HS.out.2 _ (Nat.le_refl _)) HE.out.2.2.1) ?_
    rintro e3 w3 ⟨v3, rfl, hg3, hR3⟩
    obtain ⟨K2, hK2⟩ : ∃ K2, K2 = genP P (fun z => z ∈ allC P (cseq P K) B B.length) := ⟨_, rfl⟩
    obtain ⟨hend, hrd, _, hlc⟩ := HE.out
    rw [← hK2] at hR3 hend hrd hlc
    have hle := hend.1
    clear HE hK2
    have hQ : True := trivial
    clear hQR
    obtain ⟨a3, cap3, hv3, _, _⟩ := Sl.shape hR3
    subst hv3
    by_cases heq : (cseq P K2).length = (cseq P K).length
    ·have hEE := hend.2 heq
     have hb : (((cseq P K2).length : Int) == ((cseq P K).length : Int)) = true := by simp [heq]
     have HEE := Lib.hid (And.intro hEE hrd); clear hEE hrd hend heq
     go_wp2
     go_ret
     exact ⟨_, rfl, grown_trans hg0 (grown_trans hw0r hg3), by rw [← HEE.out.1]; exact hR3⟩
    ·have hb : (((cseq P K2).length : Int) == ((cseq P K).length : Int)) = false := by simp; omega
     have hlt2 : P.orders.length - (cseq P K2).length < gk := by have := HGK.out.1; omega
     have HLT := Lib.hid (And.intro hlt2 hrd); clear hlt2 heq hrd hend
     go_wp2
     go_roundg (P.orders.length - (cseq P K2).length)
     case measure => exact HLT.out.1
     case rel => exact ⟨K2, rfl, grown_trans hw0r hg3, hR3, Lib.hid HLT.out.2.1⟩
end Go.Proofs.YtdcobapnlpeaaaaGreat
namespace Go.Proofs.YtdcobapnlpeaaaaGreat
structure ClSt (P : Pr) (H : List Int → Prop) (B : List (List Int)) (K : List Int → Prop) (b0 : List (List Int)) (j : Nat) (Kj : List Int → Prop) (bj : List (List Int)) (g : Bool) : Prop where
 st : StSt P H B Kj
 ind : Ind P Kj (gt bj)
 no : g = false → bj = b0 ∧ Kj = K ∧ ∀ k, k < j → ∀ y ∈ cseq P K, K (rConj P y (gt B k))
 yes : g = true → miss bj P.orders.length < miss b0 P.orders.length
 le : miss bj P.orders.length ≤ miss b0 P.orders.length
section
variable {P : Pr} (G : Grp P)
include G
omit G in
theorem ClSt.start {H K : List Int → Prop} {B b : List (List Int)} (h : StSt P H B K) (hI : Ind P K (gt b)) : ClSt P H B K b 0 K b false :=
 ⟨h, hI, fun _ => ⟨rfl, rfl, fun k hk => absurd hk (Nat.not_lt_zero _)⟩, (fun h => by cases h), Nat.le_refl _⟩
theorem ClSt.step {H K Kj : List Int → Prop} {B b0 bj b' : List (List Int)} {j : Nat} {g g2 : Bool} (S : Sub P H) (hB : ∀ b ∈ B, Vec P.orders b) (hK : StSt P H B K) (h : ClSt P H B K b0 j Kj bj g) (hj : j < B.length)
  (hA : AddPost P Kj (conjL P (cseq P K) (gt B j)) bj b' g2) : ClSt P H B K b0 (j + 1) (genP P (fun x => Kj x ∨ x ∈ conjL P (cseq P K) (gt B j))) b' (g2 || g) := by
 obtain ⟨hI, hn, hy⟩ := hA
 have hf := (G.seq_facts hK.1).2.1
 have hbj := hB _ (gtMem hj)
 have hmem : ∀ x ∈ conjL P (cseq P K) (gt B j), ∃ y ∈ cseq P K, x = rConj P y (gt B j) := fun x hx => by
  unfold conjL at hx; obtain ⟨y, hy, rfl⟩ := List.mem_map.1 hx; exact ⟨y, hy, rfl⟩
 refine ⟨⟨hI.sub, fun x hx => genP_mem (.inl (h.st.2.1 x hx)), fun x hx => genP_le (G.stP_sub S hB) (fun y hy => ?_) hx⟩, hI, fun hg => ?_, fun hg => ?_, ?_⟩
 ·rcases hy with h1 | h1
  ·exact h.st.2.2 y h1
  ·obtain ⟨z, hz, rfl⟩ := hmem y h1
   exact stP_conj (gtMem hj) (hK.2.2 z (hf z hz))
 ·obtain ⟨rfl, rfl⟩ : g2 = false ∧ g = false := by cases g2 <;> cases g <;> simp_all
  obtain ⟨rfl, rfl, h3⟩ := h.no rfl
  have e := hn rfl
  subst e
  have hsame : ∀ x, genP P (fun x => Kj x ∨ x ∈ conjL P (cseq P Kj) (gt B j)) x → Kj x := fun x hx => G.ind_same h.ind hI (fun y hy => genP_mem (.inl hy)) x hx
  refine ⟨rfl, funext fun x => propext ⟨hsame x, fun hx => genP_mem (.inl hx)⟩, fun k hk y hy => ?_⟩
  rcases Nat.lt_succ_iff_lt_or_eq.1 hk with h4 | h4
  ·exact h3 k h4 y hy
  ·subst h4
   exact hsame _ (genP_mem (.inr (List.mem_map.2 ⟨y, hy, rfl⟩)))
 ·cases g2 with
  | true => exact Nat.lt_of_lt_of_le (hy rfl) h.le
  | false => have e := hn rfl; subst e; exact h.yes (by simpa using hg)
 ·cases g2 with
  | true => exact Nat.le_trans (Nat.le_of_lt (hy rfl)) h.le
  | false => have e := hn rfl; subst e; exact h.le
theorem ClSt.done {H K Kj : List Int → Prop} {B b0 bj : List (List Int)} (hB : ∀ b ∈ B, Vec P.orders b) (hK : StSt P H B K) (h : ClSt P H B K b0 B.length Kj bj false) : Kj = stP P H B ∧ bj = b0 := by
 obtain ⟨e1, e2, h3⟩ := h.no rfl
 subst e1 e2
 have hf := (G.seq_facts h.st.1).2.1
 refine ⟨funext fun x => propext ⟨h.st.2.2 x, fun hx => hx _ h.st.1 h.st.2.1 (fun b hb y hy => ?_)⟩, rfl⟩
 have h1 : genP P (fun z => z ∈ cseq P Kj) y := by rw [G.genP_cseq h.st.1]; exact hy
 obtain ⟨k, hk, rfl⟩ := mem_gt hb
 exact (h1 _ (G.pull_sub h.st.1 (hB _ hb)) (fun z hz => ⟨h.st.1.vec z (hf z hz), h3 k hk z hz⟩)).2
omit G in
theorem StSt.start {H : List Int → Prop} {B : List (List Int)} (S : Sub P H) : StSt P H B H := ⟨S, fun _ h => h, fun x hx _ _ hH _ => hH x hx⟩
end
end Go.Proofs.YtdcobapnlpeaaaaGreat
namespace Go.Proofs.YtdcobapnlpeaaaaGreat
open Go.RowKit
theorem Grp.conjL_v {P : Pr} (G : Grp P) {L : List (List Int)} (hL : ∀ y ∈ L, Vec P.orders y) {g : List Int} (hg : Vec P.orders g) : ∀ z ∈ conjL P L g, Vec P.orders z := fun z hz => by
 unfold conjL at hz
 obtain ⟨y, hy, rfl⟩ := List.mem_map.1 hz
 exact G.conjV (hL y hy) hg
set_option maxRecDepth 100000 in
set_option maxHeartbeats 4000000 in
theorem closure_ok (P : Pr) (G : Grp P) (w : World) (p lv bv : Value) (L B : List (List Int)) (Sp Sr Sb : Nat → Prop) (hp : PresP Sp w p P) (hl : Rows2 Sr w lv L) (hL : ∀ x ∈ L, Vec P.orders x) (hlen : L.length ≤ 10000) (hb : Rows2 Sb w bv B) (hB : ∀ b ∈ B, Vec P.orders b) (hBl : B.length ≤ 10000) :
  Calls Tryz.prog 167 #[p, lv, bv] w (Ret w fun w' v => RowsO w.heap.size w' v (cseq P (stP P (genP P (fun x => x ∈ L)) B))) := by
 have hP := G.v
 have hn6 := hP.n6
 obtain ⟨pb, po, rfl⟩ := hp.shape
 obtain ⟨al, capl, rfl, _, _⟩ := Sl.shape hl
 obtain ⟨ab, capb, rfl, _, _⟩ := Sl.shape hb
 have hSH : Sub P (genP P (fun x => x ∈ L)) := G.genP_sub hL
 have HL := Lib.hid (And.intro hL (And.intro hB hSH)); clear hL hB hSH
 go_enter Tryz.func167, Tryz.ntmps167
 go_wp2_with fail
 refine Calls.mono (newSequence_ok P w _ Sp (fun _ => False) hp hn6) ?_
 rintro e1 w1 ⟨v1, rfl, hg1, sb, gb, rfl, hs⟩
 have hgb := hs.tab.lt
 have hsb := hs.sB
 go_wp2_with fail
 refine Calls.mono (add_ok P G w1 sb gb w.heap.size _ _ L _ (fun x => x = zeros P.orders.length) (hp.mono (fun k _ hlt => ⟨by omega, Nat.lt_of_lt_of_le hlt hg1.size, hg1.block k hlt (by simp)⟩)) hs G.ind_one HL.out.1 (Rows2.mono hl (fun k _ hlt => ⟨by omega, Nat.lt_of_lt_of_le hlt hg1.size, hg1.block k hlt (by simp)⟩)) hlen) ?_
 rintro e2 w2 ⟨b2, g2, rfl, hg2, hs2, hA, _, _⟩
 rw [genP_one] at hA
 have hgw2 : Ext w w2 := grown_own hg1 hg2 (fun j hj hlt => by cases hj; omega)
 have HA := Lib.hid hA; clear hA hs hg1 hg2 hl
 have hgb0 : w.heap.size ≤ gb := hgb.1
 have hne := hs2.ne
 clear hgb
 go_wp2
 go_loopg [8] (2 * miss b2 P.orders.length + 1) (fun gk gv wr => ∃ (g : Bool) (b : List (List Int)) (K : List Int → Prop), gv = .bool g ∧ Hid (gk = 2 * miss b P.orders.length + (if g then 1 else 0)) ∧ Ext w wr ∧ SeqAt w.heap.size (fun _ => False) wr sb gb (.pointer (some ⟨pb, po, none⟩)) P.orders.length b ∧ Hid (StSt P (genP P (fun x => x ∈ L)) B K ∧ Ind P K (gt b) ∧ (g = false → K = stP P (genP P (fun x => x ∈ L)) B)))
 case atStart => exact ⟨true, b2, _, rfl, Lib.hid rfl, hgw2, hs2, Lib.hid ⟨StSt.start HL.out.2.2, HA.out, fun h => by cases h⟩⟩
 case round =>
  clear hgw2 hs2 HA
  obtain ⟨g, b, K, rfl, hgk, hg, hs, hK⟩ := hrel
  cases g with
  | false =>
   go_wp2_with fail
   refine Calls.mono (canonical_ok P G wr sb gb w.heap.size _ b K _ _ (hp.ext hg) hs hK.out.2.1) ?_
   rintro e3 w3 ⟨v3, rfl, hg3, hO⟩
   rw [hK.out.2.2 (by simp)] at hO
   go_wp2
   go_ret
   exact ⟨_, rfl, grown_trans hg hg3, hO.weak hg.size⟩
  | true =>
   have hlt0 := hs.tab.lt.2
   go_wp2_with fail
   refine Calls.mono (canonical_ok P G wr sb gb w.heap.size _ b K _ _ (hp.ext hg) hs hK.out.2.1) ?_
   rintro e3 w3 ⟨v3, rfl, hg3, hO⟩
   have hul : (cseq P K).length ≤ P.orders.length := G.cseq_len hK.out.1.1
   have hU := RowsD.rows (SlO.toD hO (by omega))
   obtain ⟨au, nu, cu, hvu⟩ : ∃ a n c, v3 = Value.slice a n c := by obtain ⟨a, c, e, _⟩ := Sl.shape hU; exact ⟨_, _, _, e⟩
   subst hvu
   have hg03 := grown_trans hg hg3
   have hs3 := hs.ext hg3
   have hKV : ∀ y ∈ cseq P K, Vec P.orders y := fun y hy => hK.out.1.1.vec y ((G.seq_facts hK.out.1.1).2.1 y hy)
   have HK := Lib.hid hKV; clear hKV hO
   have hsz3 := hg3.size
   clear hs hg
   go_wp2
   go_loopw [8, 22] (fun gv iv wr => ∃ (i : Nat) (gj : Bool) (bj : List (List Int)) (Kj : List Int → Prop), gv = .bool gj ∧ iv = .int .i64 i ∧ i ≤ B.length ∧ w3.grownBy wr (some gb) ∧ SeqAt w.heap.size (fun _ => False) wr sb gb (.pointer (some ⟨pb, po, none⟩)) P.orders.length bj ∧ Hid (ClSt P (genP P (fun x => x ∈ L)) B K b i Kj bj gj)) (fun _ iv _ => B.length - (intOf iv).toNat)
   case atStart => exact ⟨0, false, b, K, rfl, rfl, by omega, grown_refl _ _, hs3, Lib.hid (ClSt.start hK.out.1 hK.out.2.1)⟩
   case round =>
    clear hs3
    obtain ⟨i, gj, bj, Kj, rfl, rfl, hi, hgi, hsi, hC⟩ := hrel
    have hgw : Ext w wr := grown_own hg03 hgi (fun j hj hlt => by have := Option.some.inj hj; omega)
    have hUi := Rows2.mono hU (frame_of hgi (fun k hk _ => ⟨hk, fun e => by have := Option.some.inj e; have : _ ≤ k := hk; omega⟩))
    by_cases hlt : i < B.length
    ·have hlt' : (i : Int) < B.length := by omega
     obtain ⟨bb, off, ax, capx, rfl, _, _, hc, hr⟩ := Rows2.at hb i hlt
     have hcr := hgw.cell hc (by simp)
     have hxV := HL.out.2.1 _ (gtMem hlt)
     have hstep := fun (b' : List (List Int)) (g2 : Bool) (hA : AddPost P Kj (conjL P (cseq P K) (gt B i)) bj b' g2) => ClSt.step G HL.out.2.2 HL.out.2.1 hK.out.1 hC.out hlt hA
     obtain ⟨x, hx⟩ : ∃ x, x = gt B i := ⟨_, rfl⟩
     rw [← hx] at hcr hr hxV hstep
     have HS := Lib.hid hstep
     have HV := Lib.hid hxV
     have HX := Lib.hid hx; clear hstep hxV hx hc
     go_wp2_with fail
     clear hcr
     refine Calls.mono (conjugates_ok P G wr _ _ _ (cseq P K) x Sp _ _ (hp.ext hgw) hUi HK.out (by omega) (Ints.ext hr hgw) HV.out) ?_
     rintro e4 w4 ⟨v4, rfl, hg4, hO4⟩
     have hcl : (conjL P (cseq P K) x).length = (cseq P K).length := conjL_len _ _ _
     have hR4 := RowsD.rows (hO4.toD (by rw [hcl]; omega))
     obtain ⟨a4, n4, c4, hv4⟩ : ∃ a n c, v4 = Value.slice a n c := by obtain ⟨a, c, e, _⟩ := Sl.shape hR4; exact ⟨_, _, _, e⟩
     subst hv4
     have hl4 : (conjL P (cseq P K) x).length ≤ 10000 := by omega
     have hsl := hsi.slt
     have hsg := hsi.tab.lt.2
     have hs4 := hsi.ext hg4
     have hgw4 := grown_trans hgw hg4
     have HL4 := Lib.hid (And.intro hcl hl4); clear hcl hl4 hO4
     go_wp2_with fail
     refine Calls.mono (add_ok P G w4 sb gb w.heap.size _ _ (conjL P (cseq P K) x) bj Kj (hp.mono (fun k _ hlt => ⟨by omega, Nat.lt_of_lt_of_le hlt hgw4.size, hgw4.block k hlt (by simp)⟩)) hs4 hC.out.ind (G.conjL_v HK.out HV.out) (Rows2.mono hR4 (fun k hk hlt => ⟨fun e => by have : wr.heap.size ≤ k := hk; omega, hlt, rfl⟩)) HL4.out.2) ?_
     rintro e5 w5 ⟨b5, g5, rfl, hg5, hs5, hA5⟩
     have hst := HS.out _ _ hA5
     have HT := Lib.hid hst; clear hst
     have hg35 := grown_trans hgi (grown_trans (grown_of_ext (some gb) hg4) hg5)
     cases g5 with
     | true =>
      go_wp2
      go_roundw
      case rel => exact ⟨i + 1, true, b5, _, rfl, by go_num, by omega, hg35, hs5, by simpa using HT⟩
      case measure => simp [intOf]; omega
     | false =>
      go_wp2
      go_roundw
      case rel => exact ⟨i + 1, gj, b5, _, rfl, by go_num, by omega, hg35, hs5, by simpa using HT⟩
      case measure => simp [intOf]; omega
    ·have hie : i = B.length := by omega
     subst hie
     have hmz : 2 * miss bj P.orders.length + (if gj then 1 else 0) < gk := by
      have h1 := hgk.out
      have h2 := hC.out.le
      have h3 := hC.out.yes
      cases gj with
      | true => have := h3 rfl; simp at h1 ⊢; omega
      | false => simp at h1 ⊢; omega
     have HM := Lib.hid hmz; clear hmz
     go_wp2
     go_roundg (2 * miss bj P.orders.length + (if gj then 1 else 0))
     case measure => exact HM.out
     case rel => exact ⟨gj, bj, Kj, rfl, Lib.hid rfl, hgw, hsi, Lib.hid ⟨hC.out.st, hC.out.ind, fun h => by subst h; exact (ClSt.done G HL.out.2.1 hK.out.1 hC.out).1⟩⟩
theorem closureG_ok (P : Pr) (G : Grp P) (w : World) (p lv bv : Value) (H : List Int → Prop) (B : List (List Int)) (Sp Sr Sb : Nat → Prop) (S : Sub P H) (hp : PresP Sp w p P) (hl : Rows2 Sr w lv (cseq P H)) (hb : Rows2 Sb w bv B) (hB : ∀ b ∈ B, Vec P.orders b) (hBl : B.length ≤ 10000) :
  Calls Tryz.prog 167 #[p, lv, bv] w (Ret w fun w' v => RowsO w.heap.size w' v (cseq P (stP P H B))) := by
 have h := closure_ok P G w p lv bv (cseq P H) B Sp Sr Sb hp hl (fun y hy => S.vec y ((G.seq_facts S).2.1 y hy)) (by have := G.cseq_len S; have := G.v.n6; omega) hb hB hBl
 rwa [G.genP_cseq S] at h
end Go.Proofs.YtdcobapnlpeaaaaGreat
namespace Go.Proofs.YtdcobapnlpeaaaaGreat
open Go.RowKit
def nclP (P : Pr) (H : List Int → Prop) : List Int → Prop := stP P H (gensOf P.orders.length)
theorem Grp.ncl_sub {P : Pr} (G : Grp P) {H : List Int → Prop} (S : Sub P H) : Sub P (nclP P H) := G.stP_sub S (gensOf_vec G.v)
open Classical in
noncomputable def nuC (P : Pr) (U : List (List Int)) : Int := if oneOk P U then 0 else 1
open Classical in
noncomputable def nuL (P : Pr) (U : List (List Int)) : List (List Int) := if oneOk P U then cseq P (nclP P (gU P U)) else []
theorem nu_bad {P : Pr} {U : List (List Int)} (h : ¬ oneOk P U) : nuC P U = 1 ∧ nuL P U = [] := by
 unfold nuC nuL; rw [if_neg h, if_neg h]; exact ⟨rfl, rfl⟩
theorem nu_ok {P : Pr} {U : List (List Int)} (h : oneOk P U) : nuC P U = 0 ∧ nuL P U = cseq P (nclP P (gU P U)) := by
 unfold nuC nuL; rw [if_pos h, if_pos h]; exact ⟨rfl, rfl⟩
theorem nuL_len (P : Pr) (U : List (List Int)) : (nuL P U).length ≤ 729 := by
 by_cases h : oneOk P U
 ·have G := grp_of_r h.1
  rw [(nu_ok h).2]
  have h1 : (cseq P (nclP P (gU P U))).length ≤ P.orders.length := G.cseq_len (G.ncl_sub (G.subB h.2))
  have := G.v.n6
  omega
 ·rw [(nu_bad h).2]; simp
set_option maxRecDepth 100000 in
set_option maxHeartbeats 4000000 in
theorem iNClos_ok (P : Pr) (w : World) (pv uv : Value) (U : List (List Int)) (Sp Su : Nat → Prop) (hpv : PresV Sp w pv P) (hu : Rows2 Su w uv U) :
  Calls Tryz.prog 69 #[pv, uv] w (Ret w fun w' v => ∃ a n c, v = .tuple #[.slice a n c, .int .i64 (nuC P U)] ∧ RowsO w.heap.size w' (.slice a n c) (nuL P U)) := by
 obtain ⟨vo, vp, vc, rfl, h3⟩ := hpv
 have hp0 := PresP.box h3 28
 have hg0 : Ext w (w.alloc (.cells #[vo, vp, vc] 28)) := World.grownBy_alloc _ _ _
 have hs0 : (w.alloc (.cells #[vo, vp, vc] 28)).heap.size = w.heap.size + 1 := by simp
 have hu0 := Rows2.ext hu hg0
 obtain ⟨au, capu, rfl, _, _⟩ := Sl.shape hu
 have hg1 : Ext (w.alloc (.cells #[vo, vp, vc] 28)) ((w.alloc (.cells #[vo, vp, vc] 28)).alloc (.cells #[.slice au U.length capu] 25)) := World.grownBy_alloc _ _ _
 have hl := rows3One hu0
 have hcon := areSubgroups_ok P _ _ _ [U] Any Any (hp0.ext hg1) hl
 rw [hs0] at hcon
 clear hl hu
 go_enter Tryz.func69, Tryz.ntmps69
 go_wp2_with fail
 refine Calls.mono hcon ?_
 rintro e1 w1 ⟨v1, rfl, hgA, r1, rfl, hr1⟩
 clear hcon
 have hr1 : r1 = true ↔ oneOk P U := by rw [hr1]; unfold oneOk; simp
 have hg01 := grown_trans hg1 hgA
 have HS := Lib.hid hs0; clear hs0
 generalize hw0 : w.alloc (.cells #[vo, vp, vc] 28) = w0 at *
 clear hw0 hg1 hgA
 cases r1 with
 | false =>
  obtain ⟨hc, hL⟩ := nu_bad (P := P) (U := U) (fun h => by have := hr1.2 h; cases this)
  have HC := Lib.hid (And.intro hc hL); clear hc hL hr1
  go_wp2
  go_ret2
  exact ⟨_, rfl, grown_trans hg0 hg01, none, 0, 0, by rw [HC.out.1]; rfl, by rw [HC.out.2]; exact SlO.nil _ _ _ _⟩
 | true =>
  have hok := hr1.1 rfl
  have G := grp_of_r hok.1
  obtain ⟨hc, hL⟩ := nu_ok hok
  have hU := hok.2.2
  have hml := nuL_len P U
  have HC := Lib.hid (And.intro hc (And.intro hL hok)); clear hc hL hr1 hok
  have hu1 : Rows2 Su w1 (.slice au U.length capu) (cseq P (gU P U)) := by rw [← hU]; exact Rows2.ext hu0 hg01
  have HUV := Lib.hid hU; clear hU
  go_wp2_with fail
  refine Calls.mono (generators_ok P G.v w1 _ Any (hp0.ext hg01)) ?_
  rintro eG wG ⟨vG, rfl, hgG, hOG⟩
  have hgl := gensOf_len P.orders.length
  have hn6 := G.v.n6
  have hgR := RowsD.rows (SlO.toD hOG (by omega))
  obtain ⟨ag, capg, hvg, _, _⟩ := Sl.shape hgR
  rw [hgl] at hvg
  subst hvg
  have HGL := Lib.hid hgl; clear hgl hOG
  have hg02 := grown_trans hg01 hgG
  have hu2 := Rows2.ext hu1 hgG
  clear hu1
  go_wp2_with fail
  refine Calls.mono (closureG_ok P G wG _ _ _ (gU P U) (gensOf P.orders.length) Any Su _ (G.subB HC.out.2.2.2) (hp0.ext hg02) hu2 hgR (gensOf_vec G.v) (by rw [HGL.out]; omega)) ?_
  rintro e2 w2 ⟨v2, rfl, hg2, hO⟩
  change RowsO _ _ _ (cseq P (nclP P (gU P U))) at hO
  rw [← HC.out.2.1] at hO
  obtain ⟨az, capz, hvz, _, _⟩ := SlD.shape (hO.toD (by omega))
  subst hvz
  have hs1 := hg02.size
  go_wp2
  go_ret2
  exact ⟨_, rfl, grown_trans hg0 (grown_trans hg02 hg2), _, _, _, by rw [HC.out.1]; rfl, hO.weak (by have := HS.out; omega)⟩
set_option maxRecDepth 100000 in
set_option maxHeartbeats 4000000 in
theorem sNClos_ok (P : Pr) (w : World) (pv uv : Value) (U : List (List Int)) (Sp Su : Nat → Prop) (hpv : PresV Sp w pv P) (hu : Rows2 Su w uv U) :
  Calls Tryz.prog 70 #[pv, uv] w (Ret w fun w' v => ∃ a n c, v = .tuple #[.slice a n c, .int .i64 (nuC P U)] ∧ Rows2 Any w' (.slice a n c) (nuL P U)) := by
 obtain ⟨vo, vp, vc, rfl, h3⟩ := hpv
 have hp0 := PresP.box h3 28
 have hg0 : Ext w (w.alloc (.cells #[vo, vp, vc] 28)) := World.grownBy_alloc _ _ _
 have hu0 := Rows2.ext hu hg0
 obtain ⟨au, capu, rfl, _, _⟩ := Sl.shape hu
 obtain ⟨vo6, vp6, vc6, _, _, hc0, hc1, hc2, h36⟩ := hp0.at
 simp only [Nat.zero_add] at hc1 hc2
 have hbx : ∀ w', Ext (w.alloc (.cells #[vo, vp, vc] 28)) w' → w'.cell? ⟨w.heap.size, 0, none⟩ = some vo6 ∧ w'.cell? ⟨w.heap.size, 1, none⟩ = some vp6 ∧ w'.cell? ⟨w.heap.size, 2, none⟩ = some vc6 := fun w' h => ⟨h.cell hc0 (by simp), h.cell hc1 (by simp), h.cell hc2 (by simp)⟩
 have HB := Lib.hid hbx; clear hbx
 have hE := sIsSubgroup_ok P (w.alloc (.cells #[vo, vp, vc] 28)) _ _ U Any Su ⟨_, _, _, rfl, h36⟩ hu0
 clear hp0 hu
 go_enter Tryz.func70, Tryz.ntmps70
 go_wp2_with fail
 clear hc0 hc1 hc2
 generalize hw0 : w.alloc (.cells #[vo, vp, vc] 28) = w0 at *
 clear hw0
 refine Calls.mono hE ?_
 rintro e1 w1 ⟨v1, rfl, hg1, r1, rfl, hr1⟩
 clear hE
 cases r1 with
 | false =>
  obtain ⟨hb0, hb1, hb2⟩ := HB.out w1 hg1
  obtain ⟨hc, hL⟩ := nu_bad (P := P) (U := U) (fun h => by have := hr1.2 h; cases this)
  have HC := Lib.hid (And.intro hc hL); clear hc hL hr1
  go_wp2
  go_ret2
  exact ⟨_, rfl, grown_trans hg0 hg1, none, 0, 0, by rw [HC.out.1]; rfl, by rw [HC.out.2]; exact ⟨none, 0, rfl, ⟨by simp, by simp, fun _ => rfl⟩, fun i hi => by simp at hi⟩⟩
 | true =>
  have hok : oneOk P U := hr1.1 rfl
  have G := grp_of_r hok.1
  obtain ⟨hc, hL⟩ := nu_ok hok
  have hU := hok.2.2
  have hn6 := G.v.n6
  have hgl := gensOf_len P.orders.length
  have hgv := gensOf_vec G.v
  have hu1 : Rows2 Any w1 (.slice au U.length capu) (cseq P (gU P U)) := by rw [← hU]; exact Rows2.sub (Rows2.ext hu0 hg1) (fun _ _ _ => trivial)
  have HC := Lib.hid (And.intro hc (And.intro hL (And.intro hok (And.intro hgl hgv)))); clear hc hL hr1 hok hgl hgv hU
  have f1 : ∀ w', Ext w1 w' → w'.cell? ⟨w.heap.size, 0, none⟩ = some vo6 := fun w' h => (HB.out w' (grown_trans hg1 h)).1
  have f2 : ∀ w', Ext w1 w' → w'.cell? ⟨w.heap.size, 1, none⟩ = some vp6 := fun w' h => (HB.out w' (grown_trans hg1 h)).2.1
  have f3 : ∀ w', Ext w1 w' → w'.cell? ⟨w.heap.size, 2, none⟩ = some vc6 := fun w' h => (HB.out w' (grown_trans hg1 h)).2.2
  have h37 := Pres3.ext h36 hg1
  go_wp2
  go_region_held3 (fun w' => Ext w1 w') (first | exact grown_drew _ _ | assumption)
   (first
    | (go_at_call 170; refine Calls.mono (Calls.rel (w0 := w1) (by assumption) (l12Whole_ok P G.v _ _ Any ⟨_, _, _, rfl, Pres3.ext h37 (by assumption)⟩)) ?_; rintro eC wC ⟨vC, rfl, hgC, hsC, hRC⟩; obtain ⟨aC, capC, hvC, _, _⟩ := Sl.shape hRC; rw [HC.out.2.2.2.1] at hvC; subst hvC)
    | (go_at_call 169; refine Calls.mono (Calls.rel (w0 := w1) (by assumption) (l13Stable_ok P G _ _ _ _ (gU P U) (gensOf P.orders.length) Any Any Any (G.subB HC.out.2.2.1.2) ⟨_, _, _, rfl, Pres3.ext h37 (by assumption)⟩ (Rows2.ext hu1 (by assumption)) hRC HC.out.2.2.2.2 (by rw [HC.out.2.2.2.1]; omega))) ?_; rintro eD wD ⟨vD, rfl, hgD, hsD, hRD⟩; obtain ⟨aD, nD, capD, hvD⟩ : ∃ a n c, vD = Value.slice a n c := (by obtain ⟨a, c, e, _⟩ := Sl.shape hRD; exact ⟨_, _, _, e⟩); subst hvD))
  clear f1 f2 f3
  go_wp2
  go_ret2
  exact ⟨_, rfl, grown_trans hg0 (grown_trans hg1 hgD), _, _, _, by rw [HC.out.1]; rfl, by rw [HC.out.2.1]; exact hRD⟩
end Go.Proofs.YtdcobapnlpeaaaaGreat
namespace Go.Proofs.YtdcobapnlpeaaaaGreat
section
variable {P : Pr} (G : Grp P)
include G
theorem Grp.ncl_norm {H : List Int → Prop} (S : Sub P H) : NormP P (nclP P H) := by
 refine G.norm_of_gens (G.ncl_sub S) (fun j hj x hx => stP_conj ?_ hx)
 rw [← gensOf_at _ _ hj]; exact gtMem (by rw [gensOf_len]; exact hj)
omit G in
theorem ncl_ge {H : List Int → Prop} (x : List Int) (hx : H x) : nclP P H x := fun _ _ hH _ => hH x hx
theorem Grp.ncl_le {H N : List Int → Prop} (hN : Sub P N) (hn : NormP P N) (h : ∀ x, H x → N x) (x : List Int) (hx : nclP P H x) : N x :=
 hx N hN h (fun b hb y hy => hn y hy b (gensOf_vec G.v b hb))
theorem Grp.ncl_self {H : List Int → Prop} (S : Sub P H) (hn : NormP P H) : nclP P H = H :=
 funext fun x => propext ⟨G.ncl_le S hn (fun _ h => h) x, ncl_ge x⟩
theorem Grp.core_self {H : List Int → Prop} (S : Sub P H) (hn : NormP P H) : coreP P H = H :=
 funext fun x => propext ⟨G.core_le x, fun hx => ⟨S.vec x hx, fun g hg => hn x hx g hg⟩⟩
theorem Grp.cseq_inj {H K : List Int → Prop} (S : Sub P H) (T : Sub P K) (h : cseq P H = cseq P K) : H = K := by
 rw [← G.genP_cseq S, ← G.genP_cseq T, h]
theorem Grp.norm_ncl {H : List Int → Prop} (S : Sub P H) : NormP P H ↔ cseq P H = cseq P (nclP P H) := by
 refine ⟨fun h => by rw [G.ncl_self S h], fun h => ?_⟩
 have := G.cseq_inj S (G.ncl_sub S) h
 rw [this]; exact G.ncl_norm S
theorem Grp.norm_core {H : List Int → Prop} (S : Sub P H) : NormP P H ↔ cseq P H = cseq P (coreP P H) := by
 refine ⟨fun h => by rw [G.core_self S h], fun h => ?_⟩
 have := G.cseq_inj S (G.core_sub S) h
 rw [this]; exact G.core_norm
theorem Grp.cj_back {H : List Int → Prop} (S : Sub P H) {g : List Int} (hg : Vec P.orders g) (x : List Int) (hx : H x) : ∃ y, cjS P H g y ∧ rConj P y (rInv P g) = x :=
 ⟨_, ⟨x, hx, rfl⟩, G.conj_back (S.vec x hx) hg⟩
theorem Grp.ncl_cj {H : List Int → Prop} (S : Sub P H) {g : List Int} (hg : Vec P.orders g) : nclP P (cjS P H g) = nclP P H := by
 have S2 := G.cj_sub S hg
 refine funext fun x => propext ⟨G.ncl_le (G.ncl_sub S) (G.ncl_norm S) ?_ x, G.ncl_le (G.ncl_sub S2) (G.ncl_norm S2) (fun y hy => ?_) x⟩
 ·rintro y ⟨z, hz, rfl⟩
  exact G.ncl_norm S _ (ncl_ge z hz) g hg
 ·obtain ⟨z, hz, rfl⟩ := G.cj_back S hg y hy
  exact G.ncl_norm S2 _ (ncl_ge z hz) _ (G.invV hg)
theorem Grp.core_cj {H : List Int → Prop} (S : Sub P H) {g : List Int} (hg : Vec P.orders g) : coreP P (cjS P H g) = coreP P H := by
 have S2 := G.cj_sub S hg
 refine funext fun x => propext ⟨fun h => ⟨h.1, fun k hk => ?_⟩, fun h => ⟨h.1, fun k hk => ?_⟩⟩
 ·obtain ⟨y, hy, e⟩ := h.2 _ (G.mulV hk hg)
  rw [← G.conj_mul h.1 hk hg] at e
  have hcx := G.conjV h.1 hk
  have e2 : rConj P (rConj P (rConj P x k) g) (rInv P g) = rConj P (rConj P y g) (rInv P g) := by rw [e]
  rw [G.conj_back hcx hg, G.conj_back (S.vec y hy) hg] at e2
  rw [e2]; exact hy
 ·exact G.norm_cj (G.core_norm (H := H)) (fun _ h => h.1) (fun x h => G.core_le x h) hg _ (G.core_norm x h k hk)
theorem Grp.gU_conjL {U : List (List Int)} (hU : SubB P U) {g : List Int} (hg : Vec P.orders g) : gU P (conjL P U g) = cjS P (gU P U) g := by
 have S := G.subB hU
 have h := G.genP_conjL S hg
 have e : cseq P (gU P U) = U := hU.2.symm
 rw [e] at h
 exact h
end
end Go.Proofs.YtdcobapnlpeaaaaGreat
namespace Go.Proofs.YtdcobapnlpeaaaaGreat
open Go.RowKit
theorem Grp.conjL_vec {P : Pr} (G : Grp P) {U : List (List Int)} {X : List Int} (hU : ∀ x ∈ U, Vec P.orders x) (hX : Vec P.orders X) : ∀ z ∈ conjL P U X, Vec P.orders z := fun z hz => by
 unfold conjL at hz
 obtain ⟨y, hy, rfl⟩ := List.mem_map.1 hz
 exact G.conjV (hU y hy) hX
end Go.Proofs.YtdcobapnlpeaaaaGreat
namespace Go.Proofs.YtdcobapnlpeaaaaGreat
open Go.Proofs Go.Shelf Go.RowKit Go.Lib
def Tryz.growRows_ren : Go.Shelf.Ren := ⟨fun | 4 => 253 | n => n, fun | 22 => 25 | 25 => 24 | 3 => 3 | 4 => 4 | 9 => 9 | 20 => 20 | 0 => 0 | n => n, fun | n => n⟩
theorem Tryz.growRows : Go.Proofs.Lays8.n4 Tryz.prog Tryz.growRows_ren := {
  mixed := by kernel_rfl
  f4 := ⟨Tryz.f253.name, by decide, Tryz.func253.trans (congrArg some (by kernel_rfl))⟩
  t0 := Tryz.underlying0
  a0 := Tryz.isAgg0
  z0 := Tryz.sizeOf0
  v0 := Tryz.zeroValue0
  t3 := Tryz.underlying3
  a3 := Tryz.isAgg3
  z3 := Tryz.sizeOf3
  v3 := Tryz.zeroValue3
  t4 := Tryz.underlying4
  a4 := Tryz.isAgg4
  z4 := Tryz.sizeOf4
  v4 := Tryz.zeroValue4
  t9 := Tryz.underlying9
  a9 := Tryz.isAgg9
  z9 := Tryz.sizeOf9
  v9 := Tryz.zeroValue9
  t20 := Tryz.underlying20
  a20 := Tryz.isAgg20
  z20 := Tryz.sizeOf20
  v20 := Tryz.zeroValue20
  t22 := Tryz.underlying25
  a22 := Tryz.isAgg25
  z22 := Tryz.sizeOf25
  v22 := Tryz.zeroValue25 }
end Go.Proofs.YtdcobapnlpeaaaaGreat
namespace Go.Proofs.YtdcobapnlpeaaaaGreat
open Go.RowKit
set_option maxRecDepth 100000 in
set_option maxHeartbeats 4000000 in
theorem iNormal_ok (P : Pr) (hr : rconsB P = true) (w : World) (pv uv : Value) (U : List (List Int)) (Sp Su : Nat → Prop) (hpv : PresV Sp w pv P) (hu : Rows2 Su w uv U) (hU : SubB P U) :
  Calls Tryz.prog 22 #[pv, uv] w (Ret w fun _ v => ∃ r : Bool, v = .tuple #[.bool r, .int .i64 0] ∧ (r = true ↔ NormG P (gU P U) U)) := by
 have G := grp_of_r hr
 have hn6 := G.v.n6
 obtain ⟨vo, vp, vc, rfl, h3⟩ := hpv
 have hp0 := PresP.box h3 28
 have hg0 : Ext w (w.alloc (.cells #[vo, vp, vc] 28)) := World.grownBy_alloc _ _ _
 have hs0 : (w.alloc (.cells #[vo, vp, vc] 28)).heap.size = w.heap.size + 1 := by simp
 have hu0 := Rows2.ext hu hg0
 obtain ⟨au, capu, rfl, _, _⟩ := Sl.shape hu
 have hg1 : Ext (w.alloc (.cells #[vo, vp, vc] 28)) ((w.alloc (.cells #[vo, vp, vc] 28)).alloc (.cells #[.slice au U.length capu] 25)) := World.grownBy_alloc _ _ _
 have hl := rows3One hu0
 have hcon := areSubgroups_ok P _ _ _ [U] Any Any (hp0.ext hg1) hl
 rw [hs0] at hcon
 clear hl hu
 have hulU : U.length ≤ P.orders.length := G.sub_len hU
 have HH := Lib.hid (And.intro hr (And.intro hU ((trivial : True)))); clear hr hU
 go_enter Tryz.func22, Tryz.ntmps22
 go_wp2_with fail
 refine Calls.mono hcon ?_
 rintro e1 w1 ⟨v1, rfl, hgA, r1, rfl, hr1⟩
 clear hcon
 obtain rfl : r1 = true := hr1.2 (by have := HH.out; simp only [List.mem_cons, List.mem_nil_iff, or_false]; exact ⟨this.1, fun u hu => by subst hu; exact this.2.1⟩)
 clear hr1
 have hg01 := grown_trans hg1 hgA
 have HS := Lib.hid hs0; clear hs0
 generalize hw0 : (w.alloc (.cells #[vo, vp, vc] 28)) = w0 at *
 clear hw0 hg1 hgA
 have hp1 := hp0.ext hg01
 have hu1 := Rows2.ext hu0 hg01
 have hu2 : Rows2 Su w1 (.slice au U.length capu) (cseq P (gU P U)) := by rw [← HH.out.2.1.2]; exact hu1
 have hcn := isNormal_ok P G w1 _ _ (gU P U) Any Su (G.subB HH.out.2.1) hp1 hu2
 have HC := Lib.hid hcn; clear hcn hu2
 go_wp2_with fail
 refine Calls.mono HC.out ?_
 rintro e2 w2 ⟨v2, rfl, hg2, r, rfl, hri⟩
 have hri : r = true ↔ NormG P (gU P U) U := by rw [hri, ← HH.out.2.1.2]
 have HRI := Lib.hid hri; clear hri HC
 go_wp2
 go_ret2
 exact ⟨_, rfl, grown_trans hg0 (grown_trans hg01 hg2), r, rfl, HRI.out⟩
set_option maxRecDepth 100000 in
set_option maxHeartbeats 4000000 in
theorem iConjSub_ok (P : Pr) (hr : rconsB P = true) (w : World) (pv uv xv : Value) (U : List (List Int)) (X : List Int) (Sp Su Sx : Nat → Prop) (hpv : PresV Sp w pv P) (hu : Rows2 Su w uv U) (hx : Ints Sx w xv X) (hU : SubB P U) (hX : Vec P.orders X) :
  Calls Tryz.prog 35 #[pv, uv, xv] w (Ret w fun w' v => ∃ a n c, v = .tuple #[.slice a n c, .int .i64 0] ∧ RowsO w.heap.size w' (.slice a n c) (cseq P (gU P (conjL P U X)))) := by
 have G := grp_of_r hr
 have hn6 := G.v.n6
 obtain ⟨vo, vp, vc, rfl, h3⟩ := hpv
 have hp0 := PresP.box h3 28
 have hg0 : Ext w (w.alloc (.cells #[vo, vp, vc] 28)) := World.grownBy_alloc _ _ _
 have hs0 : (w.alloc (.cells #[vo, vp, vc] 28)).heap.size = w.heap.size + 1 := by simp
 have hu0 := Rows2.ext hu hg0
 have hx0 := Ints.ext hx hg0
 obtain ⟨au, capu, rfl, _, _⟩ := Sl.shape hu
 obtain ⟨ax, capx, rfl, _, _⟩ := hx.shape
 have hg1 : Ext (w.alloc (.cells #[vo, vp, vc] 28)) ((w.alloc (.cells #[vo, vp, vc] 28)).alloc (.cells #[.slice au U.length capu] 25)) := World.grownBy_alloc _ _ _
 have hl := rows3One hu0
 have hcon := areSubgroups_ok P _ _ _ [U] Any Any (hp0.ext hg1) hl
 rw [hs0] at hcon
 clear hl hu hx
 have hulU : U.length ≤ P.orders.length := G.sub_len hU
 have HH := Lib.hid (And.intro hr (And.intro hU ( And.intro hX ((trivial : True))))); clear hr hU hX
 go_enter Tryz.func35, Tryz.ntmps35
 go_wp2_with fail
 refine Calls.mono hcon ?_
 rintro e1 w1 ⟨v1, rfl, hgA, r1, rfl, hr1⟩
 clear hcon
 obtain rfl : r1 = true := hr1.2 (by have := HH.out; simp only [List.mem_cons, List.mem_nil_iff, or_false]; exact ⟨this.1, fun u hu => by subst hu; exact this.2.1⟩)
 clear hr1
 have hg01 := grown_trans hg1 hgA
 have HS := Lib.hid hs0; clear hs0
 generalize hw0 : (w.alloc (.cells #[vo, vp, vc] 28)) = w0 at *
 clear hw0 hg1 hgA
 have hp1 := hp0.ext hg01
 have hu1 := Rows2.ext hu0 hg01
 have hx1 := Ints.ext hx0 hg01
 have hex := isExponents_ok w1 _ _ P X Any Sx hp1 hx1 (fun i hi => by have := G.v.ord7 i hi; omega)
 rw [expB_vec.2 HH.out.2.2.1] at hex
 go_wp2_with fail
 refine Calls.mono hex ?_
 rintro _ _ ⟨rfl, rfl⟩
 clear hex
 go_wp2_with fail
 refine Calls.mono (conjugateSubgroup_ok P G w1 _ _ _ U X Any Su Sx hp1 hu1 HH.out.2.1.1 (by omega) hx1 HH.out.2.2.1) ?_
 rintro e4 w4 ⟨v4, rfl, hg4, hO4⟩
 have hcl : (cseq P (gU P (conjL P U X))).length ≤ P.orders.length := G.cseq_len (G.genP_sub (G.conjL_vec HH.out.2.1.1 HH.out.2.2.1))
 obtain ⟨ad, nd, capd, hvd⟩ : ∃ a n c, v4 = .slice a n c := by
  obtain ⟨a, c, h⟩ := RowsO.shapeC hO4 (by show (cseq P (gU P (conjL P U X))).length ≤ _; omega)
  exact ⟨a, _, c, h⟩
 subst hvd
 go_wp2
 go_ret2
 exact ⟨_, rfl, grown_trans hg0 (grown_trans hg01 hg4), _, _, _, rfl, hO4.weak (by have := hg01.size; have := hg0.size; omega)⟩
end Go.Proofs.YtdcobapnlpeaaaaGreat
namespace Go.Proofs.YtdcobapnlpeaaaaGreat
def El {P : Pr} (_ : Grp P) : Type := {x : List Int // Vec P.orders x}
section
variable {P : Pr} {G : Grp P}
instance : Mul (El G) := ⟨fun x y => ⟨rMul P x.1 y.1, G.mulV x.2 y.2⟩⟩
instance : One (El G) := ⟨⟨zeros P.orders.length, G.oneV⟩⟩
instance : Inv (El G) := ⟨fun x => ⟨rInv P x.1, G.invV x.2⟩⟩
theorem El.ass (x y z : El G) : x * y * z = x * (y * z) := Subtype.ext (G.ass x.2 y.2 z.2)
theorem El.ol (x : El G) : 1 * x = x := Subtype.ext (G.grp.el _ x.2)
theorem El.or (x : El G) : x * 1 = x := Subtype.ext (G.grp.er _ x.2)
theorem El.il (x : El G) : x⁻¹ * x = 1 := Subtype.ext (G.inv_mul x.2)
theorem El.ilc (x y : El G) : x⁻¹ * (x * y) = y := by rw [← El.ass, El.il, El.ol]
theorem El.inv_of {x y : El G} (h : x * y = 1) : y = x⁻¹ := by rw [← El.ilc x y, h, El.or]
end
end Go.Proofs.YtdcobapnlpeaaaaGreat
namespace Go.Proofs.YtdcobapnlpeaaaaGreat
open Go.RowKit
set_option maxRecDepth 100000 in
set_option maxHeartbeats 4000000 in
theorem isSubset_ok (P : Pr) (G : Grp P) (w : World) (p uv vv : Value) (U : List (List Int)) (H : List Int → Prop) (Sp Su Sv : Nat → Prop) (S : Sub P H) (hp : PresP Sp w p P) (hu : Rows2 Su w uv U) (hv : Rows2 Sv w vv (cseq P H)) (hU : ∀ x ∈ U, Vec P.orders x) :
  Calls Tryz.prog 145 #[p, uv, vv] w (Ret w fun _ v => ∃ r : Bool, v = .bool r ∧ (r = true ↔ ∀ x ∈ U, H x)) := by
 obtain ⟨pb, po, rfl⟩ := hp.shape
 obtain ⟨au, capu, rfl, _, hul⟩ := Sl.shape hu
 obtain ⟨av, capv, hvv, _, _⟩ := Sl.shape hv
 obtain ⟨nv, hnv⟩ : ∃ nv, nv = (cseq P H).length := ⟨_, rfl⟩
 rw [← hnv] at hvv
 subst hvv
 have HU := Lib.hid hU; clear hU
 have HN := Lib.hid hnv; clear hnv
 go_enter Tryz.func145, Tryz.ntmps145
 go_wp2
 go_loopw [8, 11] (fun _ iv wr => ∃ (i : Nat), iv = .int .i64 i ∧ i ≤ U.length ∧ Ext w wr ∧ Hid (∀ k, k < i → H (gt U k))) (fun _ iv _ => U.length - (intOf iv).toNat)
 case atStart => exact ⟨0, rfl, by omega, grown_refl _ _, Lib.hid (fun k hk => by omega)⟩
 case round =>
  obtain ⟨i, rfl, hi, hg, hH⟩ := hrel
  by_cases hlt : i < U.length
  ·obtain ⟨b, off, ax, capx, rfl, hbS, hbl, hcb, hxI⟩ := Rows2.at hu i hlt
   have hcr := hg.cell hcb (by simp)
   have hxr := Ints.ext hxI hg
   have hpr := hp.ext hg
   have hvr := Rows2.ext hv hg
   have hxV : Vec P.orders (gt U i) := HU.out _ (gt_mem hlt)
   have hli : (i : Int) < (U.length : Nat) := by omega
   clear hcb hxI
   obtain ⟨x, hx⟩ : ∃ x, x = gt U i := ⟨_, rfl⟩
   rw [← hx] at hcr hxr hxV
   have HX := Lib.hid hx; clear hx
   go_wp2_with fail
   refine Calls.mono (isMember_ok P G wr _ _ _ H x Sp Sv Su S hpr hvr hxr hxV) ?_
   rintro e1 w1 ⟨v1, rfl, hg1, r, rfl, hr⟩
   have HR := Lib.hid hr; clear hr
   cases r with
   | true =>
    go_wp2
    go_roundw
    case rel => exact ⟨i + 1, by go_num, by omega, grown_trans hg hg1, Lib.hid (fun k hk => by
     rcases Nat.lt_or_ge k i with h | h
     ·exact hH.out k h
     ·have : k = i := by omega
      subst this; rw [← HX.out]; have := HR.out; simpa using this)⟩
    case measure => simp [intOf]; omega
   | false =>
    go_wp2
    go_ret
    exact ⟨_, rfl, grown_trans hg hg1, false, rfl, by
     constructor
     ·intro h; cases h
     ·intro h
      have := HR.out.2 (by rw [HX.out]; exact h _ (gt_mem hlt))
      cases this⟩
  ·have hie : i = U.length := by omega
   have hli : ¬ (i : Int) < (U.length : Nat) := by omega
   go_wp2
   go_ret
   exact ⟨_, rfl, hg, .inr ⟨rfl, fun y hy => by
    obtain ⟨m, hm, rfl⟩ := mem_gt hy
    exact hH.out m (by omega)⟩⟩
end Go.Proofs.YtdcobapnlpeaaaaGreat
namespace Go.Proofs.YtdcobapnlpeaaaaGreat
open Go.RowKit
set_option maxRecDepth 100000 in
set_option maxHeartbeats 4000000 in
theorem iSubset_ok (P : Pr) (hr : rconsB P = true) (w : World) (pv uv vv : Value) (U V : List (List Int)) (Sp Su Sv : Nat → Prop) (hpv : PresV Sp w pv P) (hu : Rows2 Su w uv U) (hv : Rows2 Sv w vv V) (hU : SubB P U) (hV : SubB P V) :
  Calls Tryz.prog 42 #[pv, uv, vv] w (Ret w fun _ v => ∃ r : Bool, v = .tuple #[.bool r, .int .i64 0] ∧ (r = true ↔ ∀ x ∈ U, gU P V x)) := by
 have G := grp_of_r hr
 have hn6 := G.v.n6
 obtain ⟨vo, vp, vc, rfl, h3⟩ := hpv
 have hp0 := PresP.box h3 28
 have hg0 : Ext w (w.alloc (.cells #[vo, vp, vc] 28)) := World.grownBy_alloc _ _ _
 have hs0 : (w.alloc (.cells #[vo, vp, vc] 28)).heap.size = w.heap.size + 1 := by simp
 have hu0 := Rows2.ext hu hg0
 have hv0 := Rows2.ext hv hg0
 obtain ⟨au, capu, rfl, _, _⟩ := Sl.shape hu
 obtain ⟨av, capv, rfl, _, _⟩ := Sl.shape hv
 have hg1 : Ext (w.alloc (.cells #[vo, vp, vc] 28)) ((w.alloc (.cells #[vo, vp, vc] 28)).alloc (.cells #[.slice au U.length capu, .slice av V.length capv] 25)) := World.grownBy_alloc _ _ _
 have hl := rows3Two hu0 hv0
 have hcon := areSubgroups_ok P _ _ _ [U, V] Any Any (hp0.ext hg1) hl
 rw [hs0] at hcon
 clear hl hu hv
 have hulU : U.length ≤ P.orders.length := G.sub_len hU
 have hulV : V.length ≤ P.orders.length := G.sub_len hV
 have HH := Lib.hid (And.intro hr (And.intro hU ( And.intro hV ((trivial : True))))); clear hr hU hV
 go_enter Tryz.func42, Tryz.ntmps42
 go_wp2_with fail
 refine Calls.mono hcon ?_
 rintro e1 w1 ⟨v1, rfl, hgA, r1, rfl, hr1⟩
 clear hcon
 obtain rfl : r1 = true := hr1.2 (by have := HH.out; simp only [List.mem_cons, List.mem_nil_iff, or_false]; exact ⟨this.1, fun u hu => by rcases hu with rfl | rfl; exact this.2.1; exact this.2.2.1⟩)
 clear hr1
 have hg01 := grown_trans hg1 hgA
 have HS := Lib.hid hs0; clear hs0
 generalize hw0 : (w.alloc (.cells #[vo, vp, vc] 28)) = w0 at *
 clear hw0 hg1 hgA
 have hp1 := hp0.ext hg01
 have hu1 := Rows2.ext hu0 hg01
 have hv1 := Rows2.ext hv0 hg01
 have hv2 : Rows2 Sv w1 (.slice av V.length capv) (cseq P (gU P V)) := by rw [← HH.out.2.2.1.2]; exact hv1
 have hcn := isSubset_ok P G w1 _ _ _ U (gU P V) Any Su Sv (G.subB HH.out.2.2.1) hp1 hu1 hv2 HH.out.2.1.1
 have HC := Lib.hid hcn; clear hcn hv2
 go_wp2_with fail
 refine Calls.mono HC.out ?_
 rintro e2 w2 ⟨v2, rfl, hg2, r, rfl, hri⟩
 have HRI := Lib.hid hri; clear hri HC
 go_wp2
 go_ret2
 exact ⟨_, rfl, grown_trans hg0 (grown_trans hg01 hg2), r, rfl, HRI.out⟩
end Go.Proofs.YtdcobapnlpeaaaaGreat
namespace Go.Proofs.YtdcobapnlpeaaaaGreat
open Go.RowKit
theorem Ints.extA {S : Nat → Prop} {w w' : World} {v : Value} {xs : List Int} (h : Ints S w v xs) (hg : Ext w w') : Ints Any w' v xs := Ints.sub (Ints.ext h hg) (fun _ _ _ => trivial)
end Go.Proofs.YtdcobapnlpeaaaaGreat
namespace Go.Proofs.YtdcobapnlpeaaaaGreat
open Go.RowKit
set_option maxHeartbeats 400000 in
theorem likeInts_ok (v1 v2 : Value) (l1 l2 : List Int) (w : World) (S1 S2 : Nat → Prop) (h1 : Ints S1 w v1 l1) (h2 : Ints S2 w v2 l2) :
  Calls Tryz.prog 26 #[v1, v2] w (Ret w fun _ v => v = .bool (eqB l1 l2)) := by
 obtain ⟨a, cap, rfl, _, _⟩ := h1.shape
 obtain ⟨a2, cap2, rfl, _, _⟩ := h2.shape
 by_cases hl : l1.length = l2.length
 ·have hd : ((l1.length : Int) != (l2.length : Int)) = false := by simp [hl]
  have hl1 : l1.length ≤ l2.length ∧ l2.length ≤ l1.length := by omega
  have HL := Lib.hid hl; clear hl
  go_enter Tryz.func26, Tryz.ntmps26
  go_wp2
  go_loopw [5] (fun i wr => ∃ k : Nat, i = .int .i64 k ∧ k ≤ l1.length ∧ Ext w wr ∧ ∀ i, i < k → gt l1 i = gt l2 i) (fun i _ => l1.length - (intOf i).toNat)
  case atStart => exact ⟨0, rfl, by omega, Ext.refl _, fun i hi => by omega⟩
  case round =>
   obtain ⟨k, rfl, hk, hg, hz⟩ := hrel
   have HZ := Lib.hid hz; clear hz
   by_cases hlt : k < l1.length
   ·obtain ⟨b, off, rfl, _, _, hc⟩ := Ints.at (h1.ext hg) k hlt
    obtain ⟨b2, off2, rfl, _, _, hc2⟩ := Ints.at (h2.ext hg) k (by omega)
    by_cases hx : gt l1 k = gt l2 k
    ·have hb : (gt l1 k != gt l2 k) = false := by simp [hx]
     have hx2 := Lib.hid hx; clear hx
     go_wp2
     go_quiet (fail)
     go_wp2
     go_roundw
     case rel => exact ⟨k + 1, by go_num, by omega, grown_trans hg (grown_drewN _ _ _), fun i hi => by
      rcases Nat.lt_or_ge i k with h1 | h1
      ·exact HZ.out i h1
      ·have : i = k := by omega
       rw [this, hx2.out]⟩
     case measure => simp [intOf]; omega
    ·have hb : (gt l1 k != gt l2 k) = true := by simp [hx]
     have hx2 := Lib.hid hx; clear hx
     go_wp2
     go_quiet (fail)
     go_wp2
     go_ret
     exact ret_bool (grown_trans hg (grown_drewN _ _ _)) (by rw [eqB_false_at (hx := hx2.out)])
   ·go_wp2
    go_ret
    exact ret_bool hg (by rw [eqB_true.2 (ext_gt HL.out (fun i hi => HZ.out i (by omega)))])
 ·have hd : ((l1.length : Int) != (l2.length : Int)) = true := by simp; omega
  have HL := Lib.hid hl; clear hl
  go_enter Tryz.func26, Tryz.ntmps26
  go_wp2
  go_ret
  exact ret_bool (Ext.refl _) (by rw [eqB_false.2 (fun h => HL.out (by rw [h]))])
set_option maxRecDepth 100000 in
set_option maxHeartbeats 2000000 in
theorem like29_ok (v1 v2 : Value) (l1 l2 : List (List Int)) (w : World) (S1 S2 : Nat → Prop) (h1 : Rows2 S1 w v1 l1) (h2 : Rows2 S2 w v2 l2) :
  Calls Tryz.prog 19 #[v1, v2] w (Ret w fun _ v => v = .bool (eqB l1 l2)) := by
 obtain ⟨a, cap, rfl, _, _⟩ := Sl.shape h1
 obtain ⟨a2, cap2, rfl, _, _⟩ := Sl.shape h2
 by_cases hl : l1.length = l2.length
 ·have hd : ((l1.length : Int) != (l2.length : Int)) = false := by simp [hl]
  have hl1 : l1.length ≤ l2.length ∧ l2.length ≤ l1.length := by omega
  have HL := Lib.hid hl; clear hl
  go_enter Tryz.func19, Tryz.ntmps19
  go_wp2
  go_loopw [5] (fun i wr => ∃ k : Nat, i = .int .i64 k ∧ k ≤ l1.length ∧ Ext w wr ∧ ∀ i, i < k → gt l1 i = gt l2 i) (fun i _ => l1.length - (intOf i).toNat)
  case atStart => exact ⟨0, rfl, by omega, Ext.refl _, fun i hi => by omega⟩
  case round =>
   obtain ⟨k, rfl, hk, hg, hz⟩ := hrel
   have HZ := Lib.hid hz; clear hz
   by_cases hlt : k < l1.length
   ·obtain ⟨b, off, x1, c1, rfl, _, _, hc, hi1⟩ := Rows2.at (Rows2.ext h1 hg) k hlt
    obtain ⟨b2, off2, x2, c2, rfl, _, _, hc2, hi2⟩ := Rows2.at (Rows2.ext h2 hg) k (by omega)
    have e1 : ∀ w', Ext wr w' → w'.cell? ⟨b, off + k, none⟩ = some (.slice x1 (gt l1 k).length c1) := fun w' h => h.cell hc (by simp)
    have e2 : ∀ w', Ext wr w' → w'.cell? ⟨b2, off2 + k, none⟩ = some (.slice x2 (gt l2 k).length c2) := fun w' h => h.cell hc2 (by simp)
    clear hc hc2
    have hlt2 : k < l2.length := by omega
    go_wp2
    cases hx : eqB (gt l1 k) (gt l2 k) with
    | true =>
     have hx2 := Lib.hid hx
     go_region_held3 (fun w' => Ext wr w') (first | exact grown_drew _ _ | assumption)
      (first
       | (go_at_call 26; refine Calls.mono (Calls.rel (w0 := wr) (by assumption) (likeInts_ok _ _ _ _ _ Any Any ((Ints.extA hi1 (by assumption))) (Ints.extA hi2 (by assumption)))) ?_; rintro eA wA ⟨vA, rfl, hgA, hsA, rfl⟩))
     clear e1 e2
     go_wp2
     go_roundw
     case rel => exact ⟨k + 1, by go_num, by omega, grown_trans hg hgA, fun i hi => by
      rcases Nat.lt_or_ge i k with h1 | h1
      ·exact HZ.out i h1
      ·have : i = k := by omega
       rw [this]; exact eqB_true.1 hx2.out⟩
     case measure => simp [intOf]; omega
    | false =>
     have hx2 := Lib.hid hx
     go_region_held3 (fun w' => Ext wr w') (first | exact grown_drew _ _ | assumption)
      (first
       | (go_at_call 26; refine Calls.mono (Calls.rel (w0 := wr) (by assumption) (likeInts_ok _ _ _ _ _ Any Any (Ints.extA hi1 (by assumption)) (Ints.extA hi2 (by assumption)))) ?_; rintro eA wA ⟨vA, rfl, hgA, hsA, rfl⟩))
     clear e1 e2
     go_wp2
     go_ret
     exact ret_bool (grown_trans hg hgA) (by rw [eqB_false_at (hx := eqB_false.1 hx2.out)])
   ·go_wp2
    go_ret
    exact ret_bool hg (by rw [eqB_true.2 (ext_gt HL.out (fun i hi => HZ.out i (by omega)))])
 ·have hd : ((l1.length : Int) != (l2.length : Int)) = true := by simp; omega
  have HL := Lib.hid hl; clear hl
  go_enter Tryz.func19, Tryz.ntmps19
  go_wp2
  go_ret
  exact ret_bool (Ext.refl _) (by rw [eqB_false.2 (fun e => HL.out (by rw [e]))])
end Go.Proofs.YtdcobapnlpeaaaaGreat
namespace Go.Proofs.YtdcobapnlpeaaaaGreat
open Go.RowKit
def Dice (B : Nat) (w : World) (db : Nat) : Prop := ∃ (cv : Value) (i : Nat) (h : Int) (bs : List Int), Box3 w db cv (.int .i64 i) (.int .u64 h) ∧ Bytes (fun k => k ≠ db ∧ k < B) w cv bs ∧ i ≤ bs.length ∧ bs.length ≤ 4096 ∧ db < B ∧ 0 ≤ h ∧ h < 18446744073709551616
theorem Dice.keep {B : Nat} {w w' : World} {db : Nat} (h : Dice B w db) (hs : w.heap.size ≤ w'.heap.size) (hb : ∀ k, k < B → k < w.heap.size → w'.heap[k]? = w.heap[k]?) : Dice B w' db := by
 obtain ⟨cv, i, x, bs, h1, h2, h3, h4, h5, h6⟩ := h
 exact ⟨cv, i, x, bs, h1.keep hs (hb db h5 h1.1), Sl.mono h2 (fun k hk hlt => ⟨hk, Nat.lt_of_lt_of_le hlt hs, hb k hk.2 hlt⟩) (fun _ _ h => h), h3, h4, h5, h6⟩
theorem Dice.ext {B : Nat} {w w' : World} {db : Nat} (h : Dice B w db) (hg : Ext w w') : Dice B w' db := h.keep hg.size (fun k _ hlt => hg.block k hlt (by simp))
theorem Dice.own {B : Nat} {w w' : World} {db : Nat} {r : Option Nat} (h : Dice B w db) (hg : w.grownBy w' r) (hr : ∀ k, r = some k → B ≤ k) : Dice B w' db :=
 h.keep hg.size (fun k hk hlt => hg.block k hlt (fun e => by have := hr k e.symm; omega))
theorem Dice.lt {B : Nat} {w : World} {db : Nat} (h : Dice B w db) : db < B ∧ db < w.heap.size := by
 obtain ⟨cv, i, x, bs, h1, h2, h3, h4, h5, h6⟩ := h
 exact ⟨h5, h1.1⟩
theorem u64_bd (z : Int) : 0 ≤ IntKind.u64.wrap z ∧ IntKind.u64.wrap z < 18446744073709551616 := by
 have h : IntKind.u64.wrap z = z % 18446744073709551616 := by simp [IntKind.wrap, IntKind.signed, IntKind.bits]
 rw [h]
 exact ⟨Int.emod_nonneg _ (by decide), Int.emod_lt_of_pos _ (by decide)⟩
set_option maxRecDepth 100000 in
set_option maxHeartbeats 8000000 in
theorem roll_ok (w : World) (cv : Value) (bs : List Int) (S : Nat → Prop) (seed : Int) (hbl : bs.length ≤ 4096) (hb : Bytes S w cv bs) :
  Calls Tryz.prog 51 #[cv, .int .u64 seed] w (Ret w fun w' v => ∃ db, v = .pointer (some ⟨db, 0, none⟩) ∧ w.heap.size ≤ db ∧ Dice (db + 1) w' db) := by
 obtain ⟨a, cap, rfl, _, hlen⟩ := Sl.shape hb
 obtain ⟨h0, hh0⟩ : ∃ h0, h0 = IntKind.u64.wrap (IntKind.u64.wrap (seed * 7607) + (bs.length : Nat)) := ⟨_, rfl⟩
 have hb0 := u64_bd (IntKind.u64.wrap (seed * 7607) + (bs.length : Nat))
 rw [← hh0] at hb0
 have hbA := Box3.made w 138 (.slice a bs.length cap) (.int .i64 0) (.int .u64 h0)
 have hgA : Ext w (w.alloc (.cells #[.slice a bs.length cap, .int .i64 0, .int .u64 h0] 138)) := World.grownBy_alloc _ _ _
 go_enter Tryz.func51, Tryz.ntmps51
 go_wp2_with fail
 rw [← hh0]
 have HH := Lib.hid hh0; clear hh0
 generalize w.alloc (.cells #[.slice a bs.length cap, .int .i64 0, .int .u64 h0] 138) = w0 at *
 go_loopw [6] (fun iv wr => ∃ (i : Nat) (h : Int), iv = .int .i64 i ∧ i ≤ bs.length ∧ (0 ≤ h ∧ h < 18446744073709551616) ∧ Ext w wr ∧ Box3 wr w.heap.size (.slice a bs.length cap) (.int .i64 0) (.int .u64 h)) (fun iv _ => bs.length - (intOf iv).toNat)
 case atStart => exact ⟨0, h0, rfl, by omega, hb0, hgA, hbA⟩
 case round =>
  clear hbA hgA hb0
  obtain ⟨i, h, rfl, hi, hhb, hg, hB⟩ := hrel
  by_cases hlt : i < bs.length
  ·obtain ⟨b, off, rfl, hbS, hbl2, hcb, hx0, hx1⟩ := Bytes.at hb i hlt
   have hcr := hg.cell hcb (by simp)
   generalize gt bs i = x at hcb hcr hx0 hx1
   have hli : (i : Int) < (bs.length : Nat) := by omega
   obtain ⟨s2, hs2⟩ : ∃ s2, s2 = IntKind.u64.wrap (IntKind.u64.wrap (IntKind.u64.wrap (h * 1099511628211) + x) + 5) := ⟨_, rfl⟩
   have hs2b := u64_bd (IntKind.u64.wrap (IntKind.u64.wrap (h * 1099511628211) + x) + 5)
   rw [← hs2] at hs2b
   have hBs := (hB.put (.int .u64 s2)).2.2
   have hgs := grown_set wr w.heap.size 2 (.int .u64 s2)
   have hgn : Ext w (wr.setCell ⟨w.heap.size, 2, none⟩ (.int .u64 s2)) := grown_own hg hgs (fun j hj hlt => by have := Option.some.inj hj; omega)
   have hBd := hBs.ext (grown_drew (wr.setCell ⟨w.heap.size, 2, none⟩ (.int .u64 s2)) none)
   have hgd := grown_trans hgn (grown_drew (wr.setCell ⟨w.heap.size, 2, none⟩ (.int .u64 s2)) none)
   have hw0 : IntKind.u64.wrap x = x := IntWalk.u64_in _ (by omega)
   obtain ⟨h0', h1, h2, h3, h4⟩ := id hB
   have c0 : wr.drew.cell? ⟨w.heap.size, 2, none⟩ = some (.int .u64 h) := h3
   have c1 : wr.drew.cell? ⟨b, off + i, none⟩ = some (.int .u8 x) := hcr
   have c2 : w.heap.size < wr.drew.heap.size := h0'
   have c3 := h4
   have hs2' := hs2.symm
   have HQ := Lib.hid (And.intro hgd (And.intro hBd (And.intro hs2b hb))); clear hgd hBd hs2 hs2b hb hgn hgs hBs hB hg h0' h1 h2 h3 hcb hcr
   go_wp2
   go_still_tail 15, (by kernel_rfl)
   change wpList _ _ _ _ _ wr.drew
   go_wp2
   go_roundw
   case rel => exact ⟨i + 1, s2, by go_num, by omega, HQ.out.2.2.1, HQ.out.1, HQ.out.2.1⟩
   case measure => simp [intOf]; omega
  ·have hli : ¬ (i : Int) < (bs.length : Nat) := by omega
   have HQ := Lib.hid (And.intro hg hB); clear hg hB
   go_wp2
   go_ret
   exact ⟨_, rfl, HQ.out.1, w.heap.size, rfl, Nat.le_refl _, _, 0, h, bs, HQ.out.2, Bytes.mono hb (fun k _ hlt => ⟨⟨by omega, by omega⟩, Nat.lt_of_lt_of_le hlt HQ.out.1.size, HQ.out.1.block k hlt (by simp)⟩), by omega, hbl, by omega, hhb⟩
theorem below_bits (h : Int) (h0 : 0 ≤ h) (h1 : h < 18446744073709551616) : ∃ x : Int, 0 ≤ x ∧ x < 16777216 ∧ bits .and .u64 (h / 8589934592) 16777215 = x := by
 obtain ⟨n, rfl⟩ : ∃ n : Nat, h = n := ⟨h.toNat, by omega⟩
 have hq : n / 8589934592 < 2 ^ 64 := by omega
 have e := u64_and_nat (n / 8589934592) 16777215 hq (by decide)
 refine ⟨((n / 8589934592 &&& 16777215 : Nat) : Int), by omega, ?_, ?_⟩
 ·have := Nat.and_lt_two_pow (n := 24) (n / 8589934592) (y := 16777215) (by decide)
  have h2 : (2 : Nat) ^ 24 = 16777216 := by decide
  omega
 ·rw [← e]; rfl
set_option maxRecDepth 100000 in
set_option maxHeartbeats 4000000 in
theorem below_ok (B : Nat) (w : World) (db : Nat) (n : Int) (hd : Dice B w db) (hn : 1 ≤ n) (hn2 : n ≤ 1000000000) :
  Calls Tryz.prog 52 #[.pointer (some ⟨db, 0, none⟩), .int .i64 n] w (Mut w (some db) fun w' v => ∃ x : Int, v = .int .i64 x ∧ 0 ≤ x ∧ x < n ∧ Dice B w' db) := by
 obtain ⟨cv, pos, h, bs, hB, hby, hpos, hbl, hdB, hh0, hh1⟩ := hd
 obtain ⟨a, cap, rfl, _, hlen⟩ := hby.shape
 obtain ⟨s2, hs2⟩ : ∃ s2, s2 = IntKind.u64.wrap (IntKind.u64.wrap (h * 6364136223846793005) + 1442695040888963407) := ⟨_, rfl⟩
 have hs2b := u64_bd (IntKind.u64.wrap (h * 6364136223846793005) + 1442695040888963407)
 rw [← hs2] at hs2b
 obtain ⟨y, hy0, hy1, hand⟩ := below_bits s2 hs2b.1 hs2b.2
 have hB1 := (hB.put (.int .u64 s2)).2.2
 obtain ⟨h0, h1, h2, h3, h4⟩ := id hB
 have hs2' := hs2.symm
 clear hs2
 go_enter Tryz.func52, Tryz.ntmps52
 have hg1 : w.grownBy (w.setCell ⟨db, 2, none⟩ (.int .u64 s2)) (some db) := grown_set _ _ _ _
 have hby1 : Bytes (fun k => k ≠ db ∧ k < B) (w.setCell ⟨db, 2, none⟩ (.int .u64 s2)) (.slice a bs.length cap) bs := Bytes.mono hby (frame_of hg1 (fun k hk _ => ⟨hk, fun e => hk.1 (by cases e; rfl)⟩))
 have HB1 := Lib.hid (And.intro hB1 (And.intro hg1 hby1)); clear hB1 hB hby hg1 hby1
 go_wp2
 clear h0 h1 h2 h3 h4 hs2' hand
 obtain ⟨hB1, hg1, hby1⟩ := HB1.out
 clear HB1
 generalize w.setCell ⟨db, 2, none⟩ (.int .u64 s2) = w1 at *
 obtain ⟨h0, h1, h2, h3, h4⟩ := id hB1
 have HG := Lib.hid (And.intro hB1 (And.intro hg1 hby1)); clear hB1 hg1 hby1
 by_cases hp : pos < bs.length
 ·obtain ⟨b, off, rfl, ⟨hbs, hbB⟩, hbl2, hcb, hx0, hx1⟩ := Bytes.at HG.out.2.2 pos hp
  obtain ⟨x, hx⟩ : ∃ x, x = gt bs pos := ⟨_, rfl⟩
  rw [← hx] at hcb hx0 hx1
  have HX := Lib.hid hx; clear hx
  have hpi : (pos : Int) < bs.length := by omega
  have hp0 : (0 : Int) ≤ pos := by omega
  have hqw : IntKind.i64.wrap (y + x) = y + x := IntWalk.i64_in _ (by omega)
  go_quiet (fail)
  go_wp2
  have hq : Ext w1 (w1.drewN nq) := grown_drewN _ _ _
  have hcb' := hq.cell hcb (by simp)
  have h0' : db < (w1.drewN nq).heap.size := Nat.lt_of_lt_of_le h0 hq.size
  have hG2 := And.intro (HG.out.1.ext hq) (And.intro (grown_trans HG.out.2.1 (grown_of_ext (some db) hq)) (Bytes.ext HG.out.2.2 hq))
  have HG := Lib.hid hG2; clear hG2 hq hcb h0 h1 h2 h3 h4
  obtain ⟨h1, h2, h3, h4⟩ := HG.out.1.2
  generalize w1.drewN nq = w2 at *
  go_quiet (fail)
  have hq : Ext w2 (w2.drewN nq) := grown_drewN _ _ _
  have h0 : db < (w2.drewN nq).heap.size := Nat.lt_of_lt_of_le h0' hq.size
  have hG2 := And.intro (HG.out.1.ext hq) (And.intro (grown_trans HG.out.2.1 (grown_of_ext (some db) hq)) (Bytes.ext HG.out.2.2 hq))
  have HG := Lib.hid hG2; clear hG2 hq hcb' h0' h1 h2 h3 h4
  obtain ⟨h1, h2, h3, h4⟩ := HG.out.1.2
  generalize w2.drewN nq = w3 at *
  have hB4 := (HG.out.1.put (.int .i64 ((pos : Int) + 1))).2.1
  have hg4 : w3.grownBy (w3.setCell ⟨db, 1, none⟩ (.int .i64 ((pos : Int) + 1))) (some db) := grown_set _ _ _ _
  have hby4 : Bytes (fun k => k ≠ db ∧ k < B) (w3.setCell ⟨db, 1, none⟩ (.int .i64 ((pos : Int) + 1))) (.slice (some ⟨b, off, none⟩) bs.length cap) bs := Bytes.mono HG.out.2.2 (frame_of hg4 (fun k hk _ => ⟨hk, fun e => hk.1 (by cases e; rfl)⟩))
  have hm : 0 ≤ (y + x) % n ∧ (y + x) % n < n := ⟨Int.emod_nonneg _ (by omega), Int.emod_lt_of_pos _ (by omega)⟩
  have HB4 := Lib.hid (And.intro hB4 (And.intro (grown_trans HG.out.2.1 hg4) (And.intro hby4 hm))); clear hB4 hg4 hby4 HG hqw hm
  have hpw : IntKind.i64.wrap ((pos : Int) + 1) = (pos : Int) + 1 := IntWalk.i64_in _ (by omega)
  have hn0 : n ≠ 0 := by omega
  go_wp2
  go_ret
  exact ⟨_, rfl, HB4.out.2.1, _, rfl, HB4.out.2.2.2.1, HB4.out.2.2.2.2, _, pos + 1, s2, bs, HB4.out.1, HB4.out.2.2.1, by omega, hbl, hdB, hs2b⟩
 ·have hpi : ¬ (pos : Int) < bs.length := by omega
  have hn0 : n ≠ 0 := by omega
  go_quiet (fail)
  have hq : Ext w1 (w1.drewN nq) := grown_drewN _ _ _
  have hm : 0 ≤ y % n ∧ y % n < n := ⟨Int.emod_nonneg _ (by omega), Int.emod_lt_of_pos _ (by omega)⟩
  have HM := Lib.hid hm; clear hm
  go_wp2
  go_ret
  exact ⟨_, rfl, grown_trans HG.out.2.1 (grown_of_ext _ hq), _, rfl, HM.out.1, HM.out.2, _, pos, s2, bs, HG.out.1.ext hq, Bytes.ext HG.out.2.2 hq, hpos, hbl, hdB, hs2b⟩
theorem PresV.off {S : Nat → Prop} {w w' : World} {v : Value} {P : Pr} {db : Nat} (h : PresV S w v P) (hg : Ext w w') (hdb : w.heap.size ≤ db) : PresV (fun k => k ≠ db) w' v P := by
 obtain ⟨vo, vp, vc, rfl, h3⟩ := h
 exact ⟨_, _, _, rfl, h3.mono (fun k _ hlt => ⟨by omega, Nat.lt_of_lt_of_le hlt hg.size, hg.block k hlt (by simp)⟩)⟩
set_option maxRecDepth 100000 in
set_option maxHeartbeats 4000000 in
theorem draw9_ok (P : Pr) (hP : Valid P) (B : Nat) (w : World) (db : Nat) (pv : Value) (hBw : B ≤ w.heap.size) (hd : Dice B w db) (hpv : PresV (fun k => k ≠ db) w pv P) :
  Calls Tryz.prog 72 #[.pointer (some ⟨db, 0, none⟩), pv] w (Mut w (some db) fun w' v => ∃ X, Own w.heap.size w' v X ∧ Vec P.orders X ∧ Dice B w' db) := by
 have hn6 := hP.n6
 have hsb := hd.lt.2
 obtain ⟨vo, vp, vc, rfl, h3⟩ := hpv
 obtain ⟨ao, co, hvo, _, _⟩ := h3.o.shape
 obtain ⟨ap, cp, hvp, _, _⟩ := Sl.shape h3.p
 obtain ⟨ac, cc, hvc, _, _⟩ := Sl.shape h3.c
 subst hvo hvp hvc
 have hbA := Box3.made w 28 (.slice ao P.orders.length co) (.slice ap P.powers.length cp) (.slice ac P.conj.length cc)
 have hgA : Ext w (w.alloc (.cells #[.slice ao P.orders.length co, .slice ap P.powers.length cp, .slice ac P.conj.length cc] 28)) := World.grownBy_alloc _ _ _
 have hoA := h3.o.ext hgA
 have hdA := hd.ext hgA
 have hzA : (w.alloc (.cells #[.slice ao P.orders.length co, .slice ap P.powers.length cp, .slice ac P.conj.length cc] 28)).heap.size = w.heap.size + 1 := by simp
 have HZ := Lib.hid (And.intro hzA hdA); clear hzA hdA hd h3
 go_enter Tryz.func72, Tryz.ntmps72
 go_wp2_with fail
 generalize w.alloc (.cells #[.slice ao P.orders.length co, .slice ap P.powers.length cp, .slice ac P.conj.length cc] 28) = w0 at *
 have hzA : w0.heap.size = w.heap.size + 1 := HZ.out.1
 have hgE := World.grownBy_alloc w0 (.cells #[] 2) none
 have hOE : Own w0.heap.size (w0.alloc (.cells #[] 2)) (.slice (some ⟨w0.heap.size, 0, none⟩) 0 0) [] := World.ownsRow_lit w0 #[] 0 (Nat.le_refl _) (by decide) rfl
 have HS := Lib.hid (HZ.out.2.ext hgE)
 have hg0 := grown_of_ext (some db) hgE
 clear hgE
 have HW := Lib.hid hzA
 rw [hzA] at hOE
 have hz1 : w.heap.size + 1 ≤ w0.heap.size := by omega
 clear hzA HZ
 generalize w0.alloc (.cells #[] 2) = w1 at *
 rw [← HW.out] at hOE
 rw [← HW.out]
 go_loopw [5, 6] (fun ov iv wr => ∃ (i : Nat) (l : List Int) (v4 : Value), v4 = ov ∧ iv = .int .i64 i ∧ i ≤ P.orders.length ∧ Hid (l.length = i ∧ ∀ j, j < i → 0 ≤ gt l j ∧ gt l j < gt P.orders j) ∧ w0.grownBy wr (some db) ∧ Own w0.heap.size wr v4 l ∧ Hid (Dice B wr db)) (fun _ iv _ => P.orders.length - (intOf iv).toNat)
 case atStart => exact ⟨0, [], _, rfl, rfl, by omega, Lib.hid ⟨rfl, fun j hj => by omega⟩, hg0, hOE, HS⟩
 case round =>
  clear hg0 hOE HS
  obtain ⟨i, l, v4, rfl, rfl, hi, hli, hg, hO, hsr⟩ := hrel
  have hbr := hbA.keep hg.size (hg.block _ hbA.1 (fun e => by have := Option.some.inj e; omega))
  obtain ⟨b0, b1, b2, b3, b4⟩ := id hbr
  have hob : ∀ j, v4.ownBlock = some j → w0.heap.size ≤ j := fun j hj => (hO.lt j hj).1
  have HO := Lib.hid hob; clear hob
  by_cases hlt : i < P.orders.length
  ·have hlt' : (i : Int) < P.orders.length := by omega
   obtain ⟨bo, oo, rfl, hboF, _, hco⟩ := Ints.at hoA i hlt
   have hc := hg.cell hco (by simp; exact hboF)
   have ho7 := hP.ord7 i hlt
   obtain ⟨x, hx⟩ : ∃ x, x = gt P.orders i := ⟨_, rfl⟩
   rw [← hx] at hc hco ho7
   have HX := Lib.hid hx
   clear hx hco
   have hmx : max 1 x = x := by omega
   go_wp2_with fail
   refine Calls.mono (below_ok B wr db x hsr.out (by omega) (by omega)) ?_
   rintro e3 w3 ⟨v3, rfl, hg3, y, rfl, hy0, hy1, hs3⟩
   have hg03 := grown_trans hg hg3
   have hO3 : Own w0.heap.size w3 _ l := hO.kept hg3 (.inr (fun e => by have := HO.out db e; omega))
   have hll : l.length ≤ 1000000 := by have := hli.out.1; omega
   have HS3 := Lib.hid (And.intro hs3 hll); clear hs3 hc hll hO hmx
   go_wp2_with (first | (at_builtin; refine wp_app_int rfl _ _ rfl w0.heap.size v4 l y rfl w3 hO3 rfl rfl HS3.out.2 hg03.size ?_; intro v5 w5 hO5 hg5) | fail)
   have hs5 := HS3.out.1.own hg5 (fun j hj => by have := HO.out j hj; omega)
   have hg05 : w0.grownBy w5 (some db) := grown_own hg03 hg5 (fun j hj hlt => by have := HO.out j hj; omega)
   have hll : (l ++ [y]).length = l.length + 1 := by simp
   go_roundw
   case rel => exact ⟨i + 1, l ++ [y], v5, rfl, by go_num, by omega, Lib.hid ⟨by have := hli.out.1; omega, fun j hj => by
    have hl := hli.out.1
    rcases Nat.lt_succ_iff_lt_or_eq.1 hj with h4 | h4
    ·have e : gt (l ++ [y]) j = gt l j := gt_append_left _ _ _ (by omega)
     rw [e]; exact hli.out.2 j h4
    ·have e : gt (l ++ [y]) j = y := by rw [h4, ← hl]; exact gt_concat _ _
     rw [e, h4, ← HX.out]; exact ⟨hy0, hy1⟩⟩, hg05, hO5, Lib.hid hs5⟩
   case measure => simp [intOf]; omega
  ·have hlt' : ¬ ((i : Int) < P.orders.length) := by omega
   have hie : i = P.orders.length := by omega
   subst hie
   obtain ⟨al, cl, rfl, _⟩ := (hO.ints (by have := hli.out.1; omega)).shape
   have hgw : w.grownBy wr (some db) := grown_trans (grown_of_ext (some db) hgA) hg
   have HF := Lib.hid (And.intro hgw hO); clear hgw hO
   go_wp2
   go_ret
   exact ⟨_, rfl, HF.out.1, l, HF.out.2.weak (by omega), ⟨hli.out.1, fun j hj => hli.out.2 j (by have := hli.out.1; omega)⟩, hsr.out⟩
end Go.Proofs.YtdcobapnlpeaaaaGreat
namespace Go.Proofs.YtdcobapnlpeaaaaGreat
open Go.RowKit
attribute [local go_sem ↓] Go.wp_at_zero Go.wp_at_succ
set_option maxRecDepth 100000 in
set_option maxHeartbeats 8000000 in
theorem lawCl_ok (w : World) (cv : Value) (bs : List Int) (S : Nat → Prop) (hb : Bytes S w cv bs) :
  Calls Tryz.prog 10 #[cv] w (Ret w fun _ v => v = .bool true) := by
 obtain ⟨ca, cc, rfl, _, _⟩ := Sl.shape hb
 go_enter Tryz.func10, Tryz.ntmps10
 go_wp2_with fail
 refine Calls.mono (big_ok w _ bs S hb) ?_
 rintro _ _ ⟨rfl, rfl⟩
 by_cases hbg : 4096 < bs.length
 ·have hd : decide (4096 < bs.length) = true := by simp [hbg]
  rw [hd]
  go_wp2
  go_ret
  exact ⟨_, rfl, grown_refl _ _, rfl⟩
 have hbl : bs.length ≤ 4096 := by omega
 have hd : decide (4096 < bs.length) = false := by simp [hbg]
 rw [hd]; clear hd hbg
 go_wp2_with fail
 refine Calls.mono (DrawNormalClosure_ok w _ bs S hb) ?_
 rintro e1 w1 ⟨v1, rfl, hg1, vo, vp, vc, rv, P, rfl, hPl, hP, ⟨U, _, _, hU⟩⟩
 obtain ⟨a1, n1, c1, hy1⟩ : ∃ a n c, vo = .slice a n c := by obtain ⟨a, c, e, _⟩ := hP.o.shape; exact ⟨_, _, _, e⟩
 obtain ⟨a2, n2, c2, hy2⟩ : ∃ a n c, vp = .slice a n c := by obtain ⟨a, c, e, _⟩ := Sl.shape hP.p; exact ⟨_, _, _, e⟩
 obtain ⟨a3, n3, c3, hy3⟩ : ∃ a n c, vc = .slice a n c := by obtain ⟨a, c, e, _⟩ := Sl.shape hP.c; exact ⟨_, _, _, e⟩
 subst hy1 hy2 hy3
 obtain ⟨ra, rn, rc, hrr⟩ : ∃ a n c, rv = .slice a n c := by obtain ⟨a, c, e, _⟩ := Sl.shape hU; exact ⟨_, _, _, e⟩
 subst hrr
 have hgX : Ext w1 (w1.alloc (.cells #[.slice a1 n1 c1, .slice a2 n2 c2, .slice a3 n3 c3] 28)) := World.grownBy_alloc _ _ _
 have hX := Box3.made w1 28 (.slice a1 n1 c1) (.slice a2 n2 c2) (.slice a3 n3 c3)
 have hPX := hP.ext hgX
 have hUX := Rows2.ext hU hgX
 have hgw := grown_trans hg1 hgX
 have hbX := Bytes.ext hb hgw
 have HA0 := Lib.hid (And.intro hPX (And.intro hUX (And.intro hgw hbX))); clear hPX hUX hgw hbX hgX hP hU hg1 hb
 obtain ⟨pb, hpb⟩ : ∃ pb, pb = w1.heap.size := ⟨_, rfl⟩
 rw [← hpb] at hX
 have HP := Lib.hid hpb; clear hpb
 go_wp2_with fail
 rw [← HP.out]
 generalize w1.alloc (.cells #[.slice a1 n1 c1, .slice a2 n2 c2, .slice a3 n3 c3] 28) = w2 at *
 clear HP
 have hall : ∀ w', Ext w2 w' → Box3 w' pb (.slice a1 n1 c1) (.slice a2 n2 c2) (.slice a3 n3 c3) ∧ PresV (From w.heap.size) w' (.agg #[.slice a1 n1 c1, .slice a2 n2 c2, .slice a3 n3 c3]) P ∧ Rows2 (From w.heap.size) w' (.slice ra rn rc) U ∧ Bytes S w' (.slice ca bs.length cc) bs :=
  fun w' h => ⟨hX.ext h, ⟨_, _, _, rfl, HA0.out.1.ext h⟩, Rows2.ext HA0.out.2.1 h, Bytes.ext HA0.out.2.2.2 h⟩
 have HA := Lib.hid hall; clear hall hX
 have hgw := grown_refl w2 none
 obtain ⟨b0_, b1_, b2_, b3_, _⟩ := id (HA.out w2 hgw).1
 go_wp2_with fail
 clear b0_ b1_ b2_ b3_
 refine Calls.mono (iNClos_ok P w2 _ _ U _ _ (HA.out w2 hgw).2.1 (HA.out w2 hgw).2.2.1) ?_
 rintro e3 w3 ⟨v3, rfl, hg_, ma, mn, mc, rfl, hC_⟩
 replace hgw := grown_trans hgw hg_
 have hlC := nuL_len P U
 have hCr : Rows2 Any w3 (.slice ma mn mc) (nuL P U) := Rows2.sub (RowsD.rows (SlO.toD hC_ (by omega))) (fun _ _ _ => trivial)
 have hCx : ∀ w', Ext w3 w' → Rows2 Any w' (.slice ma mn mc) (nuL P U) := fun w' h => Rows2.ext hCr h
 have HC := Lib.hid hCx; clear hCr hCx
 have hgC := grown_refl w3 none
 clear hC_ hlC
 clear hg_
 obtain ⟨b0_, b1_, b2_, b3_, _⟩ := id (HA.out w3 hgw).1
 go_wp2_with fail
 clear b0_ b1_ b2_ b3_
 refine Calls.mono (sNClos_ok P w3 _ _ U _ _ (HA.out w3 hgw).2.1 (HA.out w3 hgw).2.2.1) ?_
 rintro e4 w4 ⟨v4, rfl, hg_, ta, tn, tc, rfl, hT_⟩
 replace hgw := grown_trans hgw hg_
 replace hgC := grown_trans hgC hg_
 have hTr : Rows2 Any w4 (.slice ta tn tc) (nuL P U) := hT_
 have hTx : ∀ w', Ext w4 w' → Rows2 Any w' (.slice ta tn tc) (nuL P U) := fun w' h => Rows2.ext hTr h
 have HT := Lib.hid hTx; clear hTr hTx
 have hgT := grown_refl w4 none
 clear hT_
 clear hg_
 go_wp2_with fail
 refine Calls.mono (like29_ok _ _ (nuL P U) (nuL P U) w4 Any Any (HC.out w4 hgC) (HT.out w4 hgT)) ?_
 rintro e5 w5 ⟨v5, rfl, hg_, rfl⟩
 replace hgw := grown_trans hgw hg_
 replace hgC := grown_trans hgC hg_
 replace hgT := grown_trans hgT hg_
 rw [show eqB (nuL P U) (nuL P U) = true from eqB_true.2 rfl]
 clear HT hgT
 clear hg_
 by_cases h1 : oneOk P U
 case neg =>
  rw [(nu_bad h1).1]
  go_wp2
  go_ret
  exact ⟨_, rfl, grown_trans HA0.out.2.2.1 hgw, rfl⟩
 have hr := h1.1
 have G := grp_of_r hr
 have hn6 := G.v.n6
 have SU := G.subB h1.2
 have SC := G.ncl_sub SU
 have SD := G.core_sub SU
 have eU : U = cseq P (gU P U) := h1.2.2
 rw [(nu_ok h1).1]
 rw [(nu_ok h1).2] at HC
 have HH := Lib.hid (And.intro SU (And.intro SC (And.intro SD eU))); clear SU SC SD eU
 obtain ⟨b0_, b1_, b2_, b3_, _⟩ := id (HA.out w5 hgw).1
 go_wp2_with fail
 clear b0_ b1_ b2_ b3_
 refine Calls.mono (iNCore_ok P w5 _ _ U _ _ (HA.out w5 hgw).2.1 (HA.out w5 hgw).2.2.1) ?_
 rintro e6 w6 ⟨v6, rfl, hg_, da, dn, dc, rfl, hD_⟩
 replace hgw := grown_trans hgw hg_
 replace hgC := grown_trans hgC hg_
 have hlD := ncL_len P U
 rw [(nc_ok h1).1]
 rw [(nc_ok h1).2] at hD_ hlD
 have hDr : Rows2 Any w6 (.slice da dn dc) (cseq P (coreP P (gU P U))) := Rows2.sub (RowsD.rows (SlO.toD hD_ (by omega))) (fun _ _ _ => trivial)
 have hDx : ∀ w', Ext w6 w' → Rows2 Any w' (.slice da dn dc) (cseq P (coreP P (gU P U))) := fun w' h => Rows2.ext hDr h
 have HD := Lib.hid hDx; clear hDr hDx
 have hgD := grown_refl w6 none
 clear hD_ hlD
 clear hg_
 obtain ⟨b0_, b1_, b2_, b3_, _⟩ := id (HA.out w6 hgw).1
 go_wp2_with fail
 clear b0_ b1_ b2_ b3_
 refine Calls.mono (iNormal_ok P hr w6 _ _ U _ _ (HA.out w6 hgw).2.1 (HA.out w6 hgw).2.2.1 h1.2) ?_
 rintro e7 w7 ⟨v7, rfl, hg_, r1, rfl, hr1⟩
 replace hgw := grown_trans hgw hg_
 replace hgC := grown_trans hgC hg_
 replace hgD := grown_trans hgD hg_
 have hN1 : r1 = true ↔ NormP P (gU P U) := by rw [hr1, ← G.norm_iff HH.out.1, ← HH.out.2.2.2]
 have hE1 : eqB U (cseq P (nclP P (gU P U))) = r1 := by
  rw [Bool.eq_iff_iff, eqB_true, hN1, G.norm_ncl HH.out.1, ← HH.out.2.2.2]
 have hE2 : eqB U (cseq P (coreP P (gU P U))) = r1 := by
  rw [Bool.eq_iff_iff, eqB_true, hN1, G.norm_core HH.out.1, ← HH.out.2.2.2]
 have HE := Lib.hid (And.intro hE1 hE2); clear hE1 hE2 hN1 hr1
 clear hg_
 obtain ⟨b0_, b1_, b2_, b3_, _⟩ := id (HA.out w7 hgw).1
 go_wp2_with fail
 clear b0_ b1_ b2_ b3_
 refine Calls.mono (iNormal_ok P hr w7 _ _ _ _ _ (HA.out w7 hgw).2.1 (HC.out w7 hgC) (G.subB_cseq HH.out.2.1)) ?_
 rintro e8 w8 ⟨v8, rfl, hg_, r_, rfl, hr_⟩
 replace hgw := grown_trans hgw hg_
 replace hgC := grown_trans hgC hg_
 replace hgD := grown_trans hgD hg_
 obtain rfl : r_ = true := hr_.2 (by rw [show gU P (cseq P (nclP P (gU P U))) = nclP P (gU P U) from G.genP_cseq HH.out.2.1]; exact (G.norm_iff HH.out.2.1).2 (G.ncl_norm HH.out.1))
 clear hr_
 clear hg_
 obtain ⟨b0_, b1_, b2_, b3_, _⟩ := id (HA.out w8 hgw).1
 go_wp2_with fail
 clear b0_ b1_ b2_ b3_
 refine Calls.mono (iNormal_ok P hr w8 _ _ _ _ _ (HA.out w8 hgw).2.1 (HD.out w8 hgD) (G.subB_cseq HH.out.2.2.1)) ?_
 rintro e9 w9 ⟨v9, rfl, hg_, r_, rfl, hr_⟩
 replace hgw := grown_trans hgw hg_
 replace hgC := grown_trans hgC hg_
 replace hgD := grown_trans hgD hg_
 obtain rfl : r_ = true := hr_.2 (by rw [show gU P (cseq P (coreP P (gU P U))) = coreP P (gU P U) from G.genP_cseq HH.out.2.2.1]; exact (G.norm_iff HH.out.2.2.1).2 G.core_norm)
 clear hr_
 clear hg_
 obtain ⟨b0_, b1_, b2_, b3_, _⟩ := id (HA.out w9 hgw).1
 go_wp2_with fail
 clear b0_ b1_ b2_ b3_
 refine Calls.mono (iSubset_ok P hr w9 _ _ _ U _ _ _ _ (HA.out w9 hgw).2.1 (HA.out w9 hgw).2.2.1 (HC.out w9 hgC) h1.2 (G.subB_cseq HH.out.2.1)) ?_
 rintro e10 w10 ⟨v10, rfl, hg_, r_, rfl, hr_⟩
 replace hgw := grown_trans hgw hg_
 replace hgC := grown_trans hgC hg_
 replace hgD := grown_trans hgD hg_
 obtain rfl : r_ = true := hr_.2 (fun x hx => by rw [show gU P (cseq P (nclP P (gU P U))) = nclP P (gU P U) from G.genP_cseq HH.out.2.1]; exact ncl_ge x (genP_mem hx))
 clear hr_
 clear hg_
 obtain ⟨b0_, b1_, b2_, b3_, _⟩ := id (HA.out w10 hgw).1
 go_wp2_with fail
 clear b0_ b1_ b2_ b3_
 refine Calls.mono (iSubset_ok P hr w10 _ _ _ _ U _ _ _ (HA.out w10 hgw).2.1 (HD.out w10 hgD) (HA.out w10 hgw).2.2.1 (G.subB_cseq HH.out.2.2.1) h1.2) ?_
 rintro e11 w11 ⟨v11, rfl, hg_, r_, rfl, hr_⟩
 replace hgw := grown_trans hgw hg_
 replace hgC := grown_trans hgC hg_
 replace hgD := grown_trans hgD hg_
 obtain rfl : r_ = true := hr_.2 (fun x hx => G.core_le x ((G.seq_facts HH.out.2.2.1).2.1 x hx))
 clear hr_
 clear hg_
 go_wp2_with fail
 refine Calls.mono (like29_ok _ _ U _ w11 _ Any (HA.out w11 hgw).2.2.1 (HC.out w11 hgC)) ?_
 rintro e12 w12 ⟨v12, rfl, hg_, rfl⟩
 replace hgw := grown_trans hgw hg_
 replace hgC := grown_trans hgC hg_
 replace hgD := grown_trans hgD hg_
 rw [HE.out.1]
 clear hg_
 go_wp2_with fail
 refine Calls.mono (like29_ok _ _ U _ w12 _ Any (HA.out w12 hgw).2.2.1 (HD.out w12 hgD)) ?_
 rintro e13 w13 ⟨v13, rfl, hg_, rfl⟩
 replace hgw := grown_trans hgw hg_
 replace hgC := grown_trans hgC hg_
 replace hgD := grown_trans hgD hg_
 rw [HE.out.2]
 clear HE
 clear hg_
 have hgw0 := hgw
 have hdC := hgC.size
 have hdD := hgD.size
 have hdw := hgw.size
 go_wp2_with fail
 refine Calls.mono (roll_ok w13 _ bs S 6 hbl (HA.out w13 hgw).2.2.2) ?_
 rintro e14 w14 ⟨v14, rfl, hg_, db, rfl, hdb, hDi⟩
 replace hgw := grown_trans hgw hg_
 replace hgC := grown_trans hgC hg_
 replace hgD := grown_trans hgD hg_
 have hPd := PresV.off (HA.out w13 hgw0).2.1 hg_ hdb
 have hdlt := hDi.lt.2
 have HDi := Lib.hid (And.intro hDi hPd); clear hDi hPd
 clear hg_
 obtain ⟨b0_, b1_, b2_, b3_, _⟩ := id (HA.out w14 hgw).1
 go_wp2_with fail
 clear b0_ b1_ b2_ b3_
 refine Calls.mono (draw9_ok P G.v (db + 1) w14 db _ (by omega) HDi.out.1 HDi.out.2) ?_
 rintro e15 w15 ⟨v15, rfl, hg_, X, hX_, hXV, _⟩
 replace hgw := grown_own hgw hg_ (fun j hj hlt => by have := Option.some.inj hj; have := hgw.size; omega)
 replace hgC := grown_own hgC hg_ (fun j hj hlt => by have := Option.some.inj hj; have := hgC.size; omega)
 replace hgD := grown_own hgD hg_ (fun j hj hlt => by have := Option.some.inj hj; have := hgD.size; omega)
 have hXi := hX_.ints (by rw [hXV.1]; omega)
 obtain ⟨xa, xc, hxs, _, _⟩ := hXi.shape
 subst hxs
 have hXr : Ints Any w15 (.slice xa X.length xc) X := Ints.sub hXi (fun _ _ _ => trivial)
 have hXx : ∀ w', Ext w15 w' → Ints Any w' (.slice xa X.length xc) X := fun w' h => Ints.ext hXr h
 have HX := Lib.hid hXx; clear hXr hXx hX_ hXi
 have hgx := grown_refl w15 none
 have SM := G.cj_sub HH.out.1 hXV
 have hM1 : oneOk P (cseq P (cjS P (gU P U) X)) := ⟨hr, G.subB_cseq SM⟩
 have eM : gU P (cseq P (cjS P (gU P U) X)) = cjS P (gU P U) X := G.genP_cseq SM
 have eM1 := G.gU_conjL h1.2 hXV
 have eM2 := G.ncl_cj HH.out.1 hXV
 have eM3 := G.core_cj HH.out.1 hXV
 have HM := Lib.hid (And.intro SM (And.intro hM1 (And.intro eM (And.intro eM1 (And.intro eM2 eM3))))); clear SM hM1 eM eM1 eM2 eM3
 clear hg_
 clear hgw0 hdC hdD hdw hdb hdlt HDi
 obtain ⟨b0_, b1_, b2_, b3_, _⟩ := id (HA.out w15 hgw).1
 go_wp2_with fail
 clear b0_ b1_ b2_ b3_
 refine Calls.mono (iConjSub_ok P hr w15 _ _ _ U X _ _ _ (HA.out w15 hgw).2.1 (HA.out w15 hgw).2.2.1 (HX.out w15 hgx) h1.2 hXV) ?_
 rintro e16 w16 ⟨v16, rfl, hg_, ka, kn, kc, rfl, hK_⟩
 replace hgw := grown_trans hgw hg_
 replace hgC := grown_trans hgC hg_
 replace hgD := grown_trans hgD hg_
 replace hgx := grown_trans hgx hg_
 rw [HM.out.2.2.2.1] at hK_
 have hlK : (cseq P (cjS P (gU P U) X)).length ≤ P.orders.length := G.cseq_len HM.out.1
 have hKr : Rows2 Any w16 (.slice ka kn kc) (cseq P (cjS P (gU P U) X)) := Rows2.sub (RowsD.rows (SlO.toD hK_ (by omega))) (fun _ _ _ => trivial)
 have hKx : ∀ w', Ext w16 w' → Rows2 Any w' (.slice ka kn kc) (cseq P (cjS P (gU P U) X)) := fun w' h => Rows2.ext hKr h
 have HK := Lib.hid hKx; clear hKr hKx
 have hgK := grown_refl w16 none
 clear hK_ hlK HX hgx
 clear hg_
 obtain ⟨b0_, b1_, b2_, b3_, _⟩ := id (HA.out w16 hgw).1
 go_wp2_with fail
 clear b0_ b1_ b2_ b3_
 refine Calls.mono (iNClos_ok P w16 _ _ (cseq P (cjS P (gU P U) X)) _ _ (HA.out w16 hgw).2.1 (HK.out w16 hgK)) ?_
 rintro e17 w17 ⟨v17, rfl, hg_, ya, yn, yc, rfl, hY_⟩
 replace hgw := grown_trans hgw hg_
 replace hgC := grown_trans hgC hg_
 replace hgD := grown_trans hgD hg_
 replace hgK := grown_trans hgK hg_
 have hlY := nuL_len P (cseq P (cjS P (gU P U) X))
 rw [(nu_ok HM.out.2.1).1]
 rw [(nu_ok HM.out.2.1).2, HM.out.2.2.1, HM.out.2.2.2.2.1] at hY_ hlY
 have hYr : Rows2 Any w17 (.slice ya yn yc) (cseq P (nclP P (gU P U))) := Rows2.sub (RowsD.rows (SlO.toD hY_ (Nat.le_trans hlY (by omega)))) (fun _ _ _ => trivial)
 have hYx : ∀ w', Ext w17 w' → Rows2 Any w' (.slice ya yn yc) (cseq P (nclP P (gU P U))) := fun w' h => Rows2.ext hYr h
 have HY := Lib.hid hYx; clear hYr hYx
 have hgY := grown_refl w17 none
 clear hY_ hlY
 clear hg_
 obtain ⟨b0_, b1_, b2_, b3_, _⟩ := id (HA.out w17 hgw).1
 go_wp2_with fail
 clear b0_ b1_ b2_ b3_
 refine Calls.mono (iNCore_ok P w17 _ _ (cseq P (cjS P (gU P U) X)) _ _ (HA.out w17 hgw).2.1 (HK.out w17 hgK)) ?_
 rintro e18 w18 ⟨v18, rfl, hg_, za, zn, zc, rfl, hZ_⟩
 replace hgw := grown_trans hgw hg_
 replace hgC := grown_trans hgC hg_
 replace hgD := grown_trans hgD hg_
 replace hgK := grown_trans hgK hg_
 replace hgY := grown_trans hgY hg_
 have hlZ := ncL_len P (cseq P (cjS P (gU P U) X))
 rw [(nc_ok HM.out.2.1).1]
 rw [(nc_ok HM.out.2.1).2, HM.out.2.2.1, HM.out.2.2.2.2.2] at hZ_ hlZ
 have hZr : Rows2 Any w18 (.slice za zn zc) (cseq P (coreP P (gU P U))) := Rows2.sub (RowsD.rows (SlO.toD hZ_ (Nat.le_trans hlZ (by omega)))) (fun _ _ _ => trivial)
 have hZx : ∀ w', Ext w18 w' → Rows2 Any w' (.slice za zn zc) (cseq P (coreP P (gU P U))) := fun w' h => Rows2.ext hZr h
 have HZ := Lib.hid hZx; clear hZr hZx
 have hgZ := grown_refl w18 none
 clear hZ_ hlZ
 clear hg_
 go_wp2_with fail
 refine Calls.mono (like29_ok _ _ _ _ w18 Any Any (HY.out w18 hgY) (HC.out w18 hgC)) ?_
 rintro e19 w19 ⟨v19, rfl, hg_, rfl⟩
 replace hgw := grown_trans hgw hg_
 replace hgC := grown_trans hgC hg_
 replace hgD := grown_trans hgD hg_
 replace hgK := grown_trans hgK hg_
 replace hgY := grown_trans hgY hg_
 replace hgZ := grown_trans hgZ hg_
 rw [show eqB (cseq P (nclP P (gU P U))) (cseq P (nclP P (gU P U))) = true from eqB_true.2 rfl]
 clear hg_
 go_wp2_with fail
 refine Calls.mono (like29_ok _ _ _ _ w19 Any Any (HZ.out w19 hgZ) (HD.out w19 hgD)) ?_
 rintro e20 w20 ⟨v20, rfl, hg_, rfl⟩
 replace hgw := grown_trans hgw hg_
 replace hgC := grown_trans hgC hg_
 replace hgD := grown_trans hgD hg_
 replace hgK := grown_trans hgK hg_
 replace hgY := grown_trans hgY hg_
 replace hgZ := grown_trans hgZ hg_
 rw [show eqB (cseq P (coreP P (gU P U))) (cseq P (coreP P (gU P U))) = true from eqB_true.2 rfl]
 clear hg_
 go_wp2
 go_ret
 exact ⟨_, rfl, grown_trans HA0.out.2.2.1 hgw, rfl⟩
end Go.Proofs.YtdcobapnlpeaaaaGreat
