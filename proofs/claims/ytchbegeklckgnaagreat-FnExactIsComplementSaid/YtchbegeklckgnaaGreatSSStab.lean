/-
  spec.l13Stable, l13Normal.
-/
import Derived.Test.YtchbegeklckgnaaGreatSStabLaw
import Derived.Test.YtchbegeklckgnaaGreatSSCore
import Derived.Test.YtchbegeklckgnaaGreatK7
import Derived.Test.YtchbegeklckgnaaGreatK8
namespace Go.Proofs.YtchbegeklckgnaaGreat
open Go.RowKit

set_option maxRecDepth 100000 in
set_option maxHeartbeats 4000000 in
theorem l13Stable_ok (P : Pr) (G : Grp P) (w : World) (pv uv bv : Value) (H : List Int → Prop) (B : List (List Int)) (Sp Su Sb : Nat → Prop) (S : Sub P H) (hpv : PresV Sp w pv P) (hu : Rows2 Su w uv (cseq P H)) (hb : Rows2 Sb w bv B) (hB : ∀ b ∈ B, Vec P.orders b) (hBl : B.length ≤ 100) :
    Calls Tryz.prog 133 #[pv, uv, bv] w (Ret w fun w' v => Rows2 Any w' v (cseq P (stP P H B))) := by
  have hP := G.v
  have hn6 := hP.n6
  obtain ⟨vo, vp, vc, rfl, h3⟩ := hpv
  have hp0 := PresP.box h3 32
  have hg0 : Ext w (w.alloc (.cells #[vo, vp, vc] 32)) := World.grownBy_alloc _ _ _
  have hu0 : Rows2 Any (w.alloc (.cells #[vo, vp, vc] 32)) uv (cseq P H) := Rows2.sub (Rows2.ext hu hg0) (fun _ _ _ => trivial)
  have hb0 := Rows2.ext hb hg0
  obtain ⟨au, capu, rfl, _, _⟩ := Sl.shape hu
  obtain ⟨ab, capb, rfl, _, _⟩ := Sl.shape hb
  obtain ⟨vo6, vp6, vc6, _, _, hc0, hc1, hc2, h36⟩ := hp0.at
  simp only [Nat.zero_add] at hc1 hc2
  have hbx : ∀ w', Ext (w.alloc (.cells #[vo, vp, vc] 32)) w' → w'.cell? ⟨w.heap.size, 0, none⟩ = some vo6 ∧ w'.cell? ⟨w.heap.size, 1, none⟩ = some vp6 ∧ w'.cell? ⟨w.heap.size, 2, none⟩ = some vc6 := fun w' h => ⟨h.cell hc0 (by simp), h.cell hc1 (by simp), h.cell hc2 (by simp)⟩
  have HB := Lib.hid hbx; clear hbx hp0 hu hb
  have HS := Lib.hid (And.intro S hB); clear hB
  go_enter Tryz.func133, Tryz.ntmps133
  go_wp2
  clear hc0 hc1 hc2
  generalize hw0 : w.alloc (.cells #[vo, vp, vc] 32) = w0 at *
  clear hw0
  go_loopg [7] (P.orders.length - (cseq P H).length) (fun gk uv wr => ∃ (K : List Int → Prop), gk = P.orders.length - (cseq P K).length ∧ Ext w0 wr ∧ Rows2 Any wr uv (cseq P K) ∧ Hid (StSt P H B K))
  case atStart => exact ⟨H, rfl, Ext.refl _, hu0, Lib.hid ⟨HS.out.1, fun _ h => h, fun x h K _ hH _ => hH x h⟩⟩
  case round =>
    clear hu0
    obtain ⟨K, hgk, hg, hu, hK⟩ := hrel
    have hl := G.cseq_len hK.out.1
    obtain ⟨ak, capk, hvk, _, _⟩ := Sl.shape hu
    subst hvk
    have hKV : ∀ y ∈ cseq P K, Vec P.orders y := fun y hy => hK.out.1.vec y ((G.seq_facts hK.out.1).2.1 y hy)
    have hK6 : ∀ x ∈ cseq P K, x.length ≤ 1000000 := fun x hx => by rw [(hKV x hx).1]; omega
    have HGK := Lib.hid (And.intro hgk (And.intro hKV hK6)); clear hgk hKV hK6
    obtain ⟨wo, rfl⟩ : ∃ wo : World, wo = wr := ⟨_, rfl⟩
    go_wp2_with fail
    refine Calls.mono (l01Own2_ok wo _ (cseq P K) Any hu HGK.out.2.2 (by omega)) ?_
    rintro e2 w2 ⟨v2, rfl, hg2, hO2⟩
    have hQ2 : ShQ (fun _ => False) wo.heap.size w2 v2 (allC P (cseq P K) B 0) := hO2.shq (fun k h => h.elim)
    obtain ⟨a2, cap2, hv2, _, _⟩ := SlD.shape (hO2.toD (by omega))
    subst hv2
    clear hO2
    go_wp2
    go_loopw [8, 9] (fun nv jv wr => ∃ (j : Nat) (v8 : Value), v8 = nv ∧ jv = .int .i64 j ∧ j ≤ B.length ∧ Ext wo wr ∧ ShQ (fun _ => False) wo.heap.size wr v8 (allC P (cseq P K) B j)) (fun _ jv _ => B.length - (intOf jv).toNat)
    case atStart => exact ⟨0, _, rfl, rfl, by omega, hg2, hQ2⟩
    case round =>
      clear hQ2
      obtain ⟨j, v8, rfl, rfl, hj, hgj, hQ⟩ := hrel
      by_cases hlt : j < B.length
      · have hlt' : (j : Int) < B.length := by omega
        go_wp2
        go_loopw [8, 10] (fun nv iv wr => ∃ (i : Nat) (v8 : Value), v8 = nv ∧ iv = .int .i64 i ∧ i ≤ (cseq P K).length ∧ Ext wo wr ∧ ShQ (fun _ => False) wo.heap.size wr v8 (allC P (cseq P K) B j ++ (conjL P (cseq P K) (gt B j)).take i)) (fun _ iv _ => (cseq P K).length - (intOf iv).toNat)
        case atStart => exact ⟨0, _, rfl, rfl, by omega, hgj, by simpa using hQ⟩
        case round =>
          clear hQ
          obtain ⟨i, v8, rfl, rfl, hi, hgi, hQ⟩ := hrel
          by_cases hlti : i < (cseq P K).length
          · have hlti' : (i : Int) < (cseq P K).length := by omega
            obtain ⟨b1, o1, a1, c1, rfl, _, _, hcu, hru⟩ := Rows2.at hu i hlti
            obtain ⟨b3, o3, a3, c3, rfl, _, _, hcb, hrb⟩ := Rows2.at hb0 j hlt
            have hg0o : Ext w0 wo := hg
            have hcb := hg0o.cell hcb (by simp)
            have hrb := Ints.ext hrb hg0o
            have hyV := HGK.out.2.1 _ (gtMem hlti)
            have hbV := HS.out.2 _ (gtMem hlt)
            have hcl := conjL_len P (cseq P K) (gt B j)
            have hstep : (conjL P (cseq P K) (gt B j)).take (i + 1) = (conjL P (cseq P K) (gt B j)).take i ++ [rConj P (gt (cseq P K) i) (gt B j)] := by
              rw [take_succ_gt _ i (by rw [hcl]; exact hlti)]
              unfold conjL
              rw [gt_map _ _ _ hlti]
            have htl : (allC P (cseq P K) B j ++ (conjL P (cseq P K) (gt B j)).take i).length ≤ 1000000 := by
              rw [List.length_append, allC_len, List.length_take, hcl]
              have h1 : (cseq P K).length * (j + 1) ≤ 6 * 101 := Nat.mul_le_mul (by omega) (by omega)
              omega
            have hcV := G.conjV hyV hbV
            have hqlt : ∀ k, v8.ownBlock = some k → wo.heap.size ≤ k := fun k hk => (hQ.lt k hk).1
            obtain ⟨xs, hxs⟩ : ∃ xs, xs = allC P (cseq P K) B j ++ (conjL P (cseq P K) (gt B j)).take i := ⟨_, rfl⟩
            have hstep2 : allC P (cseq P K) B j ++ (conjL P (cseq P K) (gt B j)).take (i + 1) = xs ++ [rConj P (gt (cseq P K) i) (gt B j)] := by rw [hstep, hxs, List.append_assoc]
            rw [← hxs] at hQ htl
            have HST := Lib.hid (And.intro hstep2 (And.intro hyV (And.intro htl (And.intro hcV hbV)))); clear hstep hstep2 hyV htl hcV hbV hcl hxs
            have f1 : ∀ w', Ext wo w' → w'.cell? ⟨w.heap.size, 0, none⟩ = some vo6 := fun w' h => (HB.out w' (grown_trans hg h)).1
            have f2 : ∀ w', Ext wo w' → w'.cell? ⟨w.heap.size, 1, none⟩ = some vp6 := fun w' h => (HB.out w' (grown_trans hg h)).2.1
            have f3 : ∀ w', Ext wo w' → w'.cell? ⟨w.heap.size, 2, none⟩ = some vc6 := fun w' h => (HB.out w' (grown_trans hg h)).2.2
            have f4 : ∀ w', Ext wo w' → w'.cell? ⟨b1, o1 + i, none⟩ = some (.slice a1 (gt (cseq P K) i).length c1) := fun w' h => h.cell hcu (by simp)
            have f5 : ∀ w', Ext wo w' → w'.cell? ⟨b3, o3 + j, none⟩ = some (.slice a3 (gt B j).length c3) := fun w' h => h.cell hcb (by simp)
            clear hcu hcb
            go_wp2
            go_region_held3 (fun w' => Ext wo w') (first | exact grown_trans hgi (grown_drew _ _) | assumption | exact grown_trans hgC (World.grownBy_alloc _ _ _))
              (first
                | (go_at_call 115; refine Calls.mono (Calls.rel2 (w0 := wo) (by assumption) (l10Conj_ok P hP _ _ _ _ (gt (cseq P K) i) (gt B j) Any Any Any ⟨_, _, _, rfl, Pres3.ext h36 (grown_trans hg (by assumption))⟩ (Ints.sub (Ints.ext hru (by assumption)) (fun _ _ _ => trivial)) (Ints.sub (Ints.ext hrb (by assumption)) (fun _ _ _ => trivial)) HST.out.2.1 HST.out.2.2.2.2)) ?_; rintro eC wC ⟨vC, rfl, hgC, hgC2, hsC, hOC⟩; have hgrC : Ext wr wC := grown_trans (grown_drew _ _) hgC2; have hCI : Ints (fun k => ¬ False ∧ v8.ownBlock ≠ some k) wC vC (rConj P (gt (cseq P K) i) (gt B j)) := ints_of_own hOC (by rw [HST.out.2.2.2.1.1]; omega) (fun k hk => ⟨id, fun e => by have h1 := (hOC.lt k hk).1; have h2 := (hQ.lt k e).2; have h3 : wr.heap.size ≤ wr.drew.heap.size := (grown_drew wr none).size; omega⟩); obtain ⟨aC, capC, hvC, _, _⟩ := hCI.shape; subst hvC)
                | (refine step_shq_app rfl _ _ rfl (fun _ => False) wo.heap.size v8 _ xs _ rfl wC (hQ.ext hgrC) rfl hCI rfl HST.out.2.2.1 hgC.size ?_; intro v5 w5 hQ5 hg5 hb5; have hgw5 : Ext wo w5 := grown_own hgC hg5 (fun k hk hlt => by have := hqlt k hk; omega)))
            clear f1 f2 f3 f4 f5
            rw [← HST.out.1] at hQ5
            go_wp2
            go_roundw
            case rel => exact ⟨i + 1, v5, rfl, by go_num, by omega, hgw5, hQ5⟩
            case measure => simp [intOf]; omega
          · have hie : i = (cseq P K).length := by omega
            subst hie
            rw [List.take_of_length_le (by rw [conjL_len]; exact Nat.le_refl _)] at hQ
            go_wp2
            go_roundw
            case rel => exact ⟨j + 1, v8, rfl, by go_num, by omega, hgi, hQ⟩
            case measure => simp [intOf]; omega
      · have hje : j = B.length := by omega
        subst hje
        have hw0r := grown_trans hg hgj
        obtain ⟨hb0', hb1, hb2⟩ := HB.out wr hw0r
        have hQR := hQ.rows
        obtain ⟨aq, capq, hvq, _, _⟩ := Sl.shape hQR
        subst hvq
        have hal := allC_len P (cseq P K) B B.length
        have hal2 : (allC P (cseq P K) B B.length).length ≤ 10000 := by
          have h1 : (cseq P K).length * (B.length + 1) ≤ 6 * 101 := Nat.mul_le_mul (by omega) (by omega)
          omega
        have hend := G.st_end HS.out.1 HS.out.2 hK.out
        have hrd := G.st_round HS.out.1 HS.out.2 hK.out
        have hlc := G.cseq_len hrd.1.1
        have HE := Lib.hid (And.intro hend (And.intro hrd (And.intro hal2 hlc))); clear hend hrd hal hal2 hlc
        go_wp2_with fail
        clear hb0' hb1 hb2
        refine Calls.mono (l12Close_ok P G wr _ _ (allC P (cseq P K) B B.length) Any Any ⟨_, _, _, rfl, Pres3.ext h36 hw0r⟩ hQR (G.allC_vec hK.out.1 HS.out.2 _ (Nat.le_refl _)) HE.out.2.2.1) ?_
        rintro e3 w3 ⟨v3, rfl, hg3, hR3⟩
        obtain ⟨K2, hK2⟩ : ∃ K2, K2 = genP P (fun z => z ∈ allC P (cseq P K) B B.length) := ⟨_, rfl⟩
        obtain ⟨hend, hrd, _, hlc⟩ := HE.out
        rw [← hK2] at hR3 hend hrd hlc
        have hle := hend.1
        clear HE hK2
        have hQ : True := trivial
        clear hQR
        obtain ⟨a3, cap3, hv3, _, _⟩ := Sl.shape hR3
        subst hv3
        by_cases heq : (cseq P K2).length = (cseq P K).length
        · have hEE := hend.2 heq
          have hb : (((cseq P K2).length : Int) == ((cseq P K).length : Int)) = true := by simp [heq]
          have HEE := Lib.hid (And.intro hEE hrd); clear hEE hrd hend heq
          go_wp2
          go_ret
          exact ⟨_, rfl, grown_trans hg0 (grown_trans hw0r hg3), by rw [← HEE.out.1]; exact hR3⟩
        · have hb : (((cseq P K2).length : Int) == ((cseq P K).length : Int)) = false := by simp; omega
          have hlt2 : P.orders.length - (cseq P K2).length < gk := by have := HGK.out.1; omega
          have HLT := Lib.hid (And.intro hlt2 hrd); clear hlt2 heq hrd hend
          go_wp2
          go_roundg (P.orders.length - (cseq P K2).length)
          case measure => exact HLT.out.1
          case rel => exact ⟨K2, rfl, grown_trans hw0r hg3, hR3, Lib.hid HLT.out.2.1⟩

set_option maxHeartbeats 1000000 in
theorem l13Normal_ok (P : Pr) (G : Grp P) (w : World) (pv uv : Value) (H : List Int → Prop) (Sp Su : Nat → Prop) (S : Sub P H) (hpv : PresV Sp w pv P) (hu : Rows2 Su w uv (cseq P H)) :
    Calls Tryz.prog 86 #[pv, uv] w (Ret w fun _ v => ∃ r : Bool, v = .bool r ∧ (r = true ↔ NormG P H (cseq P H))) := by
  have hP := G.v
  have hn6 := hP.n6
  obtain ⟨vo, vp, vc, rfl, h3⟩ := hpv
  have hp0 := PresP.box h3 32
  have hg0 : Ext w (w.alloc (.cells #[vo, vp, vc] 32)) := World.grownBy_alloc _ _ _
  have hu0 : Rows2 Any (w.alloc (.cells #[vo, vp, vc] 32)) uv (cseq P H) := Rows2.sub (Rows2.ext hu hg0) (fun _ _ _ => trivial)
  obtain ⟨au, capu, rfl, _, _⟩ := Sl.shape hu
  obtain ⟨vo6, vp6, vc6, _, _, hc0, hc1, hc2, h36⟩ := hp0.at
  simp only [Nat.zero_add] at hc1 hc2
  have hgl := gensOf_len P.orders.length
  have hgv := gensOf_vec G.v
  have hst := G.st_norm S
  have HN := Lib.hid (And.intro S (And.intro hgl (And.intro hgv hst))); clear hgl hgv hst hp0 hu
  go_enter Tryz.func86, Tryz.ntmps86
  go_wp2
  have f1 : ∀ w', Ext (w.alloc (.cells #[vo, vp, vc] 32)) w' → w'.cell? ⟨w.heap.size, 0, none⟩ = some vo6 := fun w' h => h.cell hc0 (by simp)
  have f2 : ∀ w', Ext (w.alloc (.cells #[vo, vp, vc] 32)) w' → w'.cell? ⟨w.heap.size, 1, none⟩ = some vp6 := fun w' h => h.cell hc1 (by simp)
  have f3 : ∀ w', Ext (w.alloc (.cells #[vo, vp, vc] 32)) w' → w'.cell? ⟨w.heap.size, 2, none⟩ = some vc6 := fun w' h => h.cell hc2 (by simp)
  clear hc0 hc1 hc2
  generalize hw0 : w.alloc (.cells #[vo, vp, vc] 32) = w0 at *
  clear hw0
  go_region_held3 (fun w' => Ext w0 w') (first | exact grown_drew _ _ | assumption)
    (first
      | (go_at_call 134; refine Calls.mono (Calls.rel (w0 := w0) (by assumption) (l12Whole_ok P hP _ _ Any ⟨_, _, _, rfl, Pres3.ext h36 (by assumption)⟩)) ?_; rintro eC wC ⟨vC, rfl, hgC, hsC, hRC⟩; obtain ⟨aC, capC, hvC, _, _⟩ := Sl.shape hRC; rw [HN.out.2.1] at hvC; subst hvC)
      | (go_at_call 133; refine Calls.mono (Calls.rel (w0 := w0) (by assumption) (l13Stable_ok P G _ _ _ _ H (gensOf P.orders.length) Any Any Any HN.out.1 ⟨_, _, _, rfl, Pres3.ext h36 (by assumption)⟩ (Rows2.ext hu0 (by assumption)) hRC HN.out.2.2.1 (by rw [HN.out.2.1]; omega))) ?_; rintro eD wD ⟨vD, rfl, hgD, hsD, hRD⟩; obtain ⟨aD, capD, hvD, _, _⟩ := Sl.shape hRD; subst hvD))
  clear f1 f2 f3
  go_wp2
  go_ret
  exact ⟨_, rfl, grown_trans hg0 hgD, _, rfl, by rw [← HN.out.2.2.2]; simp; exact Int.ofNat_inj⟩

end Go.Proofs.YtchbegeklckgnaaGreat
