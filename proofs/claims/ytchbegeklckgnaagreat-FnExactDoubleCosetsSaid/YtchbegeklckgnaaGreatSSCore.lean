/-
  spec.l02Unit, l12Whole, l13Core.
-/
import Derived.Test.YtchbegeklckgnaaGreatSCoreW
import Derived.Test.YtchbegeklckgnaaGreatSSProd
namespace Go.Proofs.YtchbegeklckgnaaGreat
open Go.RowKit

set_option maxRecDepth 100000 in
set_option maxHeartbeats 2000000 in
theorem l02Unit_ok (n : Nat) (w : World) (hn : n ≤ 6) : Calls Tryz.prog 173 #[.int .i64 n] w (Ret w fun w' v => Rows2 Any w' v (gensOf n)) := by
  have hgl := gensOf_len n
  have HGL := Lib.hid hgl; clear hgl
  go_enter Tryz.func173, Tryz.ntmps173
  go_wp2
  go_loopw [3, 4] (fun ov iv wr => ∃ (k : Nat) (v4 : Value), v4 = ov ∧ iv = .int .i64 k ∧ k ≤ n ∧ Ext w wr ∧ RowsO w.heap.size wr v4 ((gensOf n).take k)) (fun _ iv _ => n - (intOf iv).toNat)
  case atStart => exact ⟨0, _, rfl, rfl, by omega, World.grownBy_alloc _ _ _, [], fun _ _ => False, rfl, World.ownsRow_lit w #[] 0 (Nat.le_refl _) (by decide) rfl, by simp, by simp, by simp⟩
  case round =>
    obtain ⟨k, v4, rfl, rfl, hk, hg, hO⟩ := hrel
    by_cases hlt : k < n
    · have hlt' : (k : Int) < n := by omega
      have hstep : (gensOf n).take (k + 1) = (gensOf n).take k ++ [unitV n k] := by rw [take_succ_gt _ k (by rw [HGL.out]; exact hlt), gensOf_at n k hlt]
      have htl : ((gensOf n).take k).length ≤ 1000000 := by rw [List.length_take]; omega
      have hul : (unitV n k).length = n := by simp [unitV]
      have HST := Lib.hid (And.intro hstep (And.intro htl hul)); clear hstep htl hul
      go_wp2_with (first
        | (at_make; refine wp_make_ints rfl _ _ rfl wr.heap.size n wr.heap.size rfl _ rfl rfl rfl (by omega) (Nat.le_refl _) ?_; intro w1 ho1 hg1 hlt1; have hc := ho1.cell k (by simp; omega); have hf := ho1.frozen k)
        | (at_builtin; go_must (refine wp_app_row rfl _ _ rfl w.heap.size wr _ v4 _ ((gensOf n).take k) (unitV n k) rfl hO (grown_own hg1 (ho1.store k 1).2 (fun j hj hlt => by cases hj; omega)) (OwnIn.of (base := wr.heap.size) (F := From wr.heap.size) (l := unitV n k) (ho1.store k 1).1 (by have := HST.out.2.2; omega) (fun j h1 _ => h1)) rfl (congrArg (fun z => Value.slice (some ⟨z, 0, none⟩) 1 1) (show w1.heap.size = (w1.setCell ⟨wr.heap.size, k, none⟩ (.int .i64 1)).heap.size by simp [World.setCell])) HST.out.2.1 hg.size ?_); intro v5 w5 hO5 hg5 hg6; have hgw5 := hO.extw hg (Nat.le_refl _) hg5)
        | fail)
      go_roundw
      case rel => exact ⟨k + 1, v5, rfl, by go_num, by omega, hgw5, by rw [HST.out.1]; exact hO5⟩
      case measure => simp [intOf]; omega
    · have hke : k = n := by omega
      subst hke
      rw [List.take_of_length_le (by rw [HGL.out]; exact Nat.le_refl _)] at hO
      have hR := RowsD.rows (hO.toD (by rw [HGL.out]; omega))
      obtain ⟨az, capz, hvz, _, _⟩ := Sl.shape hR
      subst hvz
      go_wp2
      go_ret
      exact ⟨_, rfl, hg, Rows2.sub hR (fun _ _ _ => trivial)⟩

theorem l12Whole_ok (P : Pr) (hP : Valid P) (w : World) (pv : Value) (Sp : Nat → Prop) (hpv : PresV Sp w pv P) :
    Calls Tryz.prog 134 #[pv] w (Ret w fun w' v => Rows2 Any w' v (gensOf P.orders.length)) := by
  obtain ⟨vo, vp, vc, rfl, h3⟩ := hpv
  have hp0 := PresP.box h3 32
  have hg0 : Ext w (w.alloc (.cells #[vo, vp, vc] 32)) := World.grownBy_alloc _ _ _
  have hn6 := hP.n6
  obtain ⟨ao, capo, hco, hoi⟩ := hp0.ordAt
  go_enter Tryz.func134, Tryz.ntmps134
  go_wp2_with fail
  refine Calls.mono (l02Unit_ok P.orders.length _ hn6) ?_
  rintro e1 w1 ⟨v1, rfl, hg1, hR⟩
  have hgl := gensOf_len P.orders.length
  have HGL := Lib.hid hgl; clear hgl
  obtain ⟨az, capz, hvz, _, _⟩ := Sl.shape hR
  subst hvz
  go_wp2
  go_ret
  exact ⟨_, rfl, grown_trans hg0 hg1, hR⟩

set_option maxRecDepth 100000 in
set_option maxHeartbeats 4000000 in
theorem l13Core_ok (P : Pr) (G : Grp P) (w : World) (pv uv : Value) (H : List Int → Prop) (Sp Su : Nat → Prop) (S : Sub P H) (hpv : PresV Sp w pv P) (hu : Rows2 Su w uv (cseq P H)) :
    Calls Tryz.prog 90 #[pv, uv] w (Ret w fun w' v => Rows2 Any w' v (cseq P (coreP P H))) := by
  have hP := G.v
  have hn6 := hP.n6
  obtain ⟨vo, vp, vc, rfl, h3⟩ := hpv
  have hp0 := PresP.box h3 32
  have hg0 : Ext w (w.alloc (.cells #[vo, vp, vc] 32)) := World.grownBy_alloc _ _ _
  have hu0 : Rows2 Any (w.alloc (.cells #[vo, vp, vc] 32)) uv (cseq P H) := Rows2.sub (Rows2.ext hu hg0) (fun _ _ _ => trivial)
  obtain ⟨au, capu, rfl, _, _⟩ := Sl.shape hu
  obtain ⟨vo6, vp6, vc6, _, _, hc0, hc1, hc2, h36⟩ := hp0.at
  simp only [Nat.zero_add] at hc1 hc2
  have hbx : ∀ w', Ext (w.alloc (.cells #[vo, vp, vc] 32)) w' → w'.cell? ⟨w.heap.size, 0, none⟩ = some vo6 ∧ w'.cell? ⟨w.heap.size, 1, none⟩ = some vp6 ∧ w'.cell? ⟨w.heap.size, 2, none⟩ = some vc6 := fun w' h => ⟨h.cell hc0 (by simp), h.cell hc1 (by simp), h.cell hc2 (by simp)⟩
  have HB := Lib.hid hbx; clear hbx hp0 hu
  have HS := Lib.hid S
  have hE := l12Whole_ok P hP (w.alloc (.cells #[vo, vp, vc] 32)) _ Any ⟨_, _, _, rfl, h36⟩
  go_enter Tryz.func90, Tryz.ntmps90
  go_wp2_with fail
  clear hc0 hc1 hc2
  generalize hw0 : w.alloc (.cells #[vo, vp, vc] 32) = w0 at *
  clear hw0
  refine Calls.mono hE ?_
  rintro e1 w1 ⟨v1, rfl, hg1, hgR⟩
  clear hE
  have hgl := gensOf_len P.orders.length
  obtain ⟨ag, capg, hvg, _, _⟩ := Sl.shape hgR
  rw [hgl] at hvg
  subst hvg
  have HGL := Lib.hid hgl; clear hgl
  have hu1 := Rows2.ext hu0 hg1
  clear hu0
  go_wp2
  go_loopg [6] ((cseq P H).length) (fun gk uv wr => ∃ (K : List Int → Prop), gk = (cseq P K).length ∧ Ext w1 wr ∧ Rows2 Any wr uv (cseq P K) ∧ Hid (CoreSt P H K)) 
  case atStart => exact ⟨H, rfl, Ext.refl _, hu1, Lib.hid (G.core_start HS.out)⟩
  case round =>
    clear hu1
    obtain ⟨K, hgk, hg, hu, hK⟩ := hrel
    have hl := G.cseq_len hK.out.1
    obtain ⟨ak, capk, hvk, _, _⟩ := Sl.shape hu
    subst hvk
    have HGK := Lib.hid hgk; clear hgk
    obtain ⟨wo, rfl⟩ : ∃ wo : World, wo = wr := ⟨_, rfl⟩
    have hg0o := grown_trans hg1 hg
    go_wp2
    go_loopw [7, 8] (fun uv iv wr => ∃ (i : Nat) (K1 : List Int → Prop), iv = .int .i64 i ∧ i ≤ P.orders.length ∧ Ext wo wr ∧ Rows2 Any wr uv (cseq P K1) ∧ Hid (CorePass P H K K1 i)) (fun _ iv _ => P.orders.length - (intOf iv).toNat)
    case atStart => exact ⟨0, K, rfl, by omega, Ext.refl _, hu, Lib.hid ⟨hK.out, fun _ h => h, fun j hj => by omega⟩⟩
    case round =>
      obtain ⟨i, K1, rfl, hi, hgi, hui, hC⟩ := hrel
      have hl1 := G.cseq_len hC.out.1.1
      obtain ⟨a1, cap1, hv1, _, _⟩ := Sl.shape hui
      subst hv1
      have hg0i := grown_trans hg0o hgi
      by_cases hlt : i < P.orders.length
      · have hlt' : (i : Int) < P.orders.length := by omega
        obtain ⟨bb, off, ax, capx, rfl, _, _, hc, hr⟩ := Rows2.at hgR i (by rw [HGL.out]; exact hlt)
        have hg1i := grown_trans hg hgi
        have hcr := hg1i.cell hc (by simp)
        have hge := gensOf_at P.orders.length i hlt
        rw [hge] at hcr hr
        have hxV := unitV_vec hP i
        have hst := G.corePass_step hC.out
        have hcj := G.genP_conjL hC.out.1.1 hxV
        have hLV : ∀ y ∈ cseq P K1, Vec P.orders y := fun y hy => hC.out.1.1.vec y ((G.seq_facts hC.out.1.1).2.1 y hy)
        obtain ⟨g, hgg⟩ : ∃ g, g = unitV P.orders.length i := ⟨_, rfl⟩
        rw [← hgg] at hcr hr hxV hst hcj
        have hSc := G.cj_sub hC.out.1.1 hxV
        have HI := Lib.hid (And.intro hxV (And.intro hst (And.intro hcj (And.intro hLV hSc)))); clear hxV hst hcj hLV hgg hge hc hSc
        have f1 : ∀ w', Ext wr w' → w'.cell? ⟨w.heap.size, 0, none⟩ = some vo6 := fun w' h => (HB.out w' (grown_trans hg0i h)).1
        have f2 : ∀ w', Ext wr w' → w'.cell? ⟨w.heap.size, 1, none⟩ = some vp6 := fun w' h => (HB.out w' (grown_trans hg0i h)).2.1
        have f3 : ∀ w', Ext wr w' → w'.cell? ⟨w.heap.size, 2, none⟩ = some vc6 := fun w' h => (HB.out w' (grown_trans hg0i h)).2.2
        have f4 : ∀ w', Ext wr w' → w'.cell? ⟨bb, off + i, none⟩ = some (.slice ax g.length capx) := fun w' h => h.cell hcr (by simp)
        clear hcr
        go_wp2
        go_region_held3 (fun w' => Ext wr w') (first | exact grown_drew _ _ | assumption)
          (first
            | (go_at_call 70; refine Calls.mono (Calls.rel (w0 := wr) (by assumption) (l13Conj_ok P G _ _ _ _ (cseq P K1) g Any Any Any ⟨_, _, _, rfl, Pres3.ext h36 (grown_trans hg0i (by assumption))⟩ (Rows2.ext hui (by assumption)) HI.out.2.2.2.1 (by omega) (Ints.sub (Ints.ext (Ints.ext hr hg1i) (by assumption)) (fun _ _ _ => trivial)) HI.out.1)) ?_; rintro eC wC ⟨vC, rfl, hgC, hsC, hRC⟩; rw [HI.out.2.2.1] at hRC; obtain ⟨aw, capw, hvw, _, _⟩ := Sl.shape hRC; subst hvw)
            | (go_at_call 77; refine Calls.mono (Calls.rel (w0 := wr) (by assumption) (l13Meet_ok P G _ _ _ _ K1 (cjS P K1 g) Any Any Any hC.out.1.1 HI.out.2.2.2.2 ⟨_, _, _, rfl, Pres3.ext h36 (grown_trans hg0i (by assumption))⟩ (Rows2.ext hui (by assumption)) hRC)) ?_; rintro eD wD ⟨vD, rfl, hgD, hsD, hRD⟩))
        clear f1 f2 f3 f4
        go_wp2
        go_roundw
        case rel => exact ⟨i + 1, _, by go_num, by omega, grown_trans hgi hgD, hRD, Lib.hid HI.out.2.1⟩
        case measure => simp [intOf]; omega
      · have hie : i = P.orders.length := by omega
        have hle := (G.len_le hC.out.1.1 hK.out.1 hC.out.2.1).1
        by_cases heq : (cseq P K1).length = (cseq P K).length
        · have hend := G.corePass_end hK.out.1 (by rw [← hie]; exact hC.out) heq
          have hKK : K1 = K := funext fun x => propext ⟨hC.out.2.1 x, hend.2 x⟩
          have hE := core_done hK.out hend.1
          rw [← hKK] at hE
          have hb : (((cseq P K1).length : Int) == ((cseq P K).length : Int)) = true := by simp [heq]
          have HE := Lib.hid hE; clear hE hKK hend heq
          rw [HE.out] at hui
          have hce : (cseq P K1).length = (cseq P (coreP P H)).length := by rw [HE.out]
          have HCE := Lib.hid hce; clear hce
          subst hie
          go_wp2
          go_ret
          exact ⟨_, rfl, grown_trans hg0 hg0i, by rw [← HE.out] at hui ⊢; exact hui⟩
        · have hb : (((cseq P K1).length : Int) == ((cseq P K).length : Int)) = false := by simp; omega
          have hlt2 : (cseq P K1).length < gk := by have := HGK.out; omega
          have HLT := Lib.hid hlt2; clear hlt2 heq
          subst hie
          go_wp2
          go_roundg ((cseq P K1).length)
          case measure => exact HLT.out
          case rel => exact ⟨K1, rfl, grown_trans hg hgi, hui, Lib.hid hC.out.1⟩

end Go.Proofs.YtchbegeklckgnaaGreat
