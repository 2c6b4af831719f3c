/-
  impl.isNormal.
-/
import Derived.Test.YtigbpdaomgagiaaGreatSConjsW
namespace Go.Proofs.YtigbpdaomgagiaaGreat
open Go.RowKit

theorem gensOf_vec {P : Pr} (hP : Valid P) : ∀ g ∈ gensOf P.orders.length, Vec P.orders g := fun g hg => by
  unfold gensOf at hg
  obtain ⟨k, _, rfl⟩ := List.mem_map.1 hg
  exact unitV_vec hP k

/-- the generators conjugate the list into H -/
def NormG (P : Pr) (H : List Int → Prop) (U : List (List Int)) : Prop := ∀ g ∈ gensOf P.orders.length, ∀ x ∈ U, H (rConj P x g)

set_option maxRecDepth 100000 in
set_option maxHeartbeats 2000000 in
theorem isNormal_ok (P : Pr) (G : Grp P) (w : World) (p uv : Value) (H : List Int → Prop) (Sp Su : Nat → Prop) (S : Sub P H) (hp : PresP Sp w p P) (hu : Rows2 Su w uv (cseq P H)) :
    Calls Tryz.prog 91 #[p, uv] w (Ret w fun _ v => ∃ r : Bool, v = .bool r ∧ (r = true ↔ NormG P H (cseq P H))) := by
  have hP := G.v
  have hn6 := hP.n6
  have hl := G.cseq_len S
  have hUH := (G.seq_facts S).2.1
  obtain ⟨pb, po, rfl⟩ := hp.shape
  obtain ⟨au, capu, rfl, _, _⟩ := Sl.shape hu
  have hgl : (gensOf P.orders.length).length ≤ 6 := by unfold gensOf; simp; omega
  have HG := Lib.hid (And.intro (gensOf_vec hP) hUH); clear hUH
  go_enter Tryz.func91, Tryz.ntmps91
  go_wp2_with fail
  refine Calls.mono (generators_ok P hP w _ Sp hp) ?_
  rintro e1 w1 ⟨v1, rfl, hg1, hO⟩
  have hR := RowsD.rows (hO.toD (by omega))
  obtain ⟨a1, cap1, hv1, _, _⟩ := Sl.shape hR
  subst hv1
  generalize hgs : gensOf P.orders.length = GS at *
  have HGS := Lib.hid hgs; clear hgs hO
  go_wp2
  go_loopw [12] (fun iv wr => ∃ i : Nat, iv = .int .i64 i ∧ i ≤ GS.length ∧ Ext w1 wr ∧ Hid (∀ j, j < i → ∀ x ∈ cseq P H, H (rConj P x (gt GS j)))) (fun iv _ => GS.length - (intOf iv).toNat)
  case atStart => exact ⟨0, rfl, by omega, Ext.refl _, Lib.hid (fun j h => by omega)⟩
  case round =>
    obtain ⟨i, rfl, hi, hg, hN⟩ := hrel
    by_cases hlt : i < GS.length
    · have hlt' : (i : Int) < GS.length := by omega
      obtain ⟨b, off, a2, cap2, rfl, _, _, hc, hgi⟩ := Rows2.at hR i hlt
      have hcr := hg.cell hc (by simp)
      have hgV := HG.out.1 _ (gtMem hlt)
      have HV := Lib.hid hgV; clear hgV
      go_wp2
      clear hcr
      go_loopw [18] (fun jv wr => ∃ j : Nat, jv = .int .i64 j ∧ j ≤ (cseq P H).length ∧ Ext w1 wr ∧ Hid (∀ l, l < j → H (rConj P (gt (cseq P H) l) (gt GS i)))) (fun jv _ => (cseq P H).length - (intOf jv).toNat)
      case atStart => exact ⟨0, rfl, by omega, hg, Lib.hid (fun j h => by omega)⟩
      case round =>
        clear hg
        obtain ⟨j, rfl, hj, hg, hM⟩ := hrel
        have hgw := grown_trans hg1 hg
        by_cases hjl : j < (cseq P H).length
        · have hjl' : (j : Int) < (cseq P H).length := by omega
          obtain ⟨b3, off3, a3, cap3, rfl, _, _, hc3, hr3⟩ := Rows2.at (Rows2.ext hu hgw) j hjl
          have hxV := S.vec _ (HG.out.2 _ (gtMem hjl))
          have HX := Lib.hid hxV; clear hxV
          go_wp2_with fail
          refine Calls.mono (conjugate_ok P hP wr _ _ _ (gt (cseq P H) j) (gt GS i) Sp _ _ (hp.ext hgw) hr3 (hgi.ext hg) HX.out HV.out) ?_
          rintro eC wC ⟨vC, rfl, hgC, hOC⟩
          rw [G.iConj_eq HX.out HV.out] at hOC
          have hcV := G.conjV HX.out HV.out
          have hCI := hOC.ints (by rw [hcV.1]; omega)
          obtain ⟨aC, capC, hvC, _, _⟩ := hCI.shape
          subst hvC
          have HCV := Lib.hid hcV; clear hcV
          have hgwC := grown_trans hgw hgC
          go_wp2_with fail
          refine Calls.mono (isMember_ok P G wC _ _ _ H (rConj P (gt (cseq P H) j) (gt GS i)) Sp Su Any S (hp.ext hgwC) (Rows2.ext hu hgwC) hCI HCV.out) ?_
          rintro eM wM ⟨vM, rfl, hgM, r, rfl, hr⟩
          have hgT := grown_trans (grown_trans hg hgC) hgM
          cases r with
          | true =>
            have HR := Lib.hid (hr.1 rfl); clear hr
            go_wp2
            go_roundw
            case rel => exact ⟨j + 1, by go_num, by omega, hgT, Lib.hid (fun l hl => by
              rcases Nat.lt_succ_iff_lt_or_eq.1 hl with h | h
              · exact hM.out l h
              · rw [h]; exact HR.out)⟩
            case measure => simp [intOf]; omega
          | false =>
            have hno : ¬ H (rConj P (gt (cseq P H) j) (gt GS i)) := fun h => by have := hr.2 h; cases this
            have HR := Lib.hid hno; clear hr hno
            go_wp2
            go_ret
            exact ⟨_, rfl, grown_trans hg1 hgT, false, rfl, by
              simp only [Bool.false_eq_true, false_iff]
              intro h
              unfold NormG at h
              rw [HGS.out] at h
              exact HR.out (h _ (gtMem hlt) _ (gtMem hjl))⟩
        · have hje : j = (cseq P H).length := by omega
          subst hje
          go_wp2
          go_roundw
          case rel => exact ⟨i + 1, by go_num, by omega, hg, Lib.hid (fun l hl => by
            rcases Nat.lt_succ_iff_lt_or_eq.1 hl with h | h
            · exact hN.out l h
            · rw [h]
              intro x hx
              obtain ⟨m, hm, rfl⟩ := List.getElem_of_mem hx
              rw [← gt_eq _ m hm]; exact hM.out m hm)⟩
          case measure => simp [intOf]; omega
    · have hie : i = GS.length := by omega
      subst hie
      go_wp2
      go_ret
      exact ⟨_, rfl, grown_trans hg1 hg, true, rfl, by
        simp only [true_iff]
        unfold NormG
        rw [HGS.out]
        intro g hgm x hx
        obtain ⟨l, hl, rfl⟩ := List.getElem_of_mem hgm
        rw [← gt_eq _ l hl]; exact hN.out l hl x hx⟩

end Go.Proofs.YtigbpdaomgagiaaGreat
