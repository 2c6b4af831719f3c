/-
  Sizes of product sets on both sides; the reference's conjugate of a subgroup: spec.l13Conj, l13Size, impl.productSize.
-/
import Derived.Test.YtchbegeklckgnaaGreatSSMeet
namespace Go.Proofs.YtchbegeklckgnaaGreat
open Go.RowKit

/-- the size of the product set of two subgroups -/
noncomputable def prodSz (P : Pr) (H K : List Int → Prop) : Int :=
  prodU P (cseq P H) (cseq P H).length * prodU P (cseq P K) (cseq P K).length / prodU P (cseq P (fun x => H x ∧ K x)) (cseq P (fun x => H x ∧ K x)).length

set_option maxRecDepth 100000 in
set_option maxHeartbeats 4000000 in
theorem productSize_ok (P : Pr) (G : Grp P) (w : World) (p uv vv : Value) (H K : List Int → Prop) (Sp Su Sv : Nat → Prop) (S : Sub P H) (R : Sub P K) (hp : PresP Sp w p P) (hu : Rows2 Su w uv (cseq P H)) (hv : Rows2 Sv w vv (cseq P K)) :
    Calls Tryz.prog 68 #[p, uv, vv] w (Ret w fun _ v => v = .int .i64 (prodSz P H K)) := by
  have hP := G.v
  have hn6 := hP.n6
  obtain ⟨pb, po, rfl⟩ := hp.shape
  have hlH := G.cseq_len S
  have hlK := G.cseq_len R
  have hlM := G.cseq_len (S.and R)
  have hsH := (G.seq_facts S).1
  have hsK := (G.seq_facts R).1
  have hsM := (G.seq_facts (S.and R)).1
  have hbH := prodU_729 hP hsH _ (Nat.le_refl _)
  have hbK := prodU_729 hP hsK _ (Nat.le_refl _)
  have hbM := prodU_729 hP hsM _ (Nat.le_refl _)
  have hE : prodSz P H K = prodU P (cseq P H) (cseq P H).length * prodU P (cseq P K) (cseq P K).length / prodU P (cseq P (fun x => H x ∧ K x)) (cseq P (fun x => H x ∧ K x)).length := rfl
  obtain ⟨au, capu, rfl, _, _⟩ := Sl.shape hu
  obtain ⟨av, capv, rfl, _, _⟩ := Sl.shape hv
  obtain ⟨a, ha⟩ : ∃ a, a = prodU P (cseq P H) (cseq P H).length := ⟨_, rfl⟩
  obtain ⟨b, hb⟩ : ∃ b, b = prodU P (cseq P K) (cseq P K).length := ⟨_, rfl⟩
  obtain ⟨c, hc⟩ : ∃ c, c = prodU P (cseq P (fun x => H x ∧ K x)) (cseq P (fun x => H x ∧ K x)).length := ⟨_, rfl⟩
  rw [← ha] at hbH hE
  rw [← hb] at hbK hE
  rw [← hc] at hbM hE
  have hab0 : 0 ≤ a * b := Int.mul_nonneg (by omega) (by omega)
  have hab1 : a * b ≤ 729 * 729 := Int.mul_le_mul (by omega) (by omega) (by omega) (by omega)
  have hq0 : 0 ≤ a * b / c := Int.ediv_nonneg hab0 (by omega)
  have hq1 : a * b / c ≤ a * b := Int.ediv_le_self _ hab0
  have e1 : IntKind.i64.wrap (a * b) = a * b := IntWalk.i64_in _ (by omega)
  have e2 : (a * b).tdiv c = a * b / c := Int.tdiv_eq_ediv_of_nonneg hab0
  have e3 : IntKind.i64.wrap (a * b / c) = a * b / c := IntWalk.i64_in _ (by omega)
  have hc0 : (c == 0) = false := by simp; omega
  have HX := Lib.hid (And.intro hsH (And.intro hsK (And.intro hsM (And.intro hE (And.intro ha (And.intro hb hc)))))); clear hsH hsK hsM hE ha hb hc
  go_enter Tryz.func68, Tryz.ntmps68
  go_wp2_with fail
  refine Calls.mono (sizeOf_ok P hP w _ _ (cseq P H) Sp Su hp hu HX.out.1 (by omega)) ?_
  rintro eA wA ⟨vA, rfl, hgA, rfl⟩
  rw [← HX.out.2.2.2.2.1]
  go_wp2_with fail
  refine Calls.mono (sizeOf_ok P hP wA _ _ (cseq P K) Sp Sv (hp.ext hgA) (Rows2.ext hv hgA) HX.out.2.1 (by omega)) ?_
  rintro eB wB ⟨vB, rfl, hgB, rfl⟩
  rw [← HX.out.2.2.2.2.2.1]
  have hgw := grown_trans hgA hgB
  go_wp2_with fail
  refine Calls.mono (meet_ok P G wB _ _ _ H K Sp Su Sv S R (hp.ext hgw) (Rows2.ext hu hgw) (Rows2.ext hv hgw)) ?_
  rintro eC wC ⟨vC, rfl, hgC, hOC⟩
  have hgwC := grown_trans hgw hgC
  have hMR := RowsD.rows (SlO.toD hOC (by omega))
  obtain ⟨am, capm, hvm, _, _⟩ := Sl.shape hMR
  subst hvm
  go_wp2_with fail
  refine Calls.mono (sizeOf_ok P hP wC _ _ (cseq P (fun x => H x ∧ K x)) Sp _ (hp.ext hgwC) hMR HX.out.2.2.1 (by omega)) ?_
  rintro eD wD ⟨vD, rfl, hgD, rfl⟩
  rw [← HX.out.2.2.2.2.2.2]
  go_wp2
  go_ret
  exact ⟨_, rfl, grown_trans hgwC hgD, by rw [HX.out.2.2.2.1]; rfl⟩

set_option maxRecDepth 100000 in
set_option maxHeartbeats 4000000 in
theorem l13Size_ok (P : Pr) (G : Grp P) (w : World) (pv uv vv : Value) (H K : List Int → Prop) (Sp Su Sv : Nat → Prop) (S : Sub P H) (R : Sub P K) (hpv : PresV Sp w pv P) (hu : Rows2 Su w uv (cseq P H)) (hv : Rows2 Sv w vv (cseq P K)) :
    Calls Tryz.prog 67 #[pv, uv, vv] w (Ret w fun _ v => v = .int .i64 (prodSz P H K)) := by
  have hP := G.v
  have hn6 := hP.n6
  have hlH := G.cseq_len S
  have hlK := G.cseq_len R
  have hlM := G.cseq_len (S.and R)
  have hsH := (G.seq_facts S).1
  have hsK := (G.seq_facts R).1
  have hsM := (G.seq_facts (S.and R)).1
  have hbH := prodU_729 hP hsH _ (Nat.le_refl _)
  have hbK := prodU_729 hP hsK _ (Nat.le_refl _)
  have hbM := prodU_729 hP hsM _ (Nat.le_refl _)
  have hE : prodSz P H K = prodU P (cseq P H) (cseq P H).length * prodU P (cseq P K) (cseq P K).length / prodU P (cseq P (fun x => H x ∧ K x)) (cseq P (fun x => H x ∧ K x)).length := rfl
  obtain ⟨vo, vp, vc, rfl, h3⟩ := hpv
  have hp0 := PresP.box h3 32
  have hg0 : Ext w (w.alloc (.cells #[vo, vp, vc] 32)) := World.grownBy_alloc _ _ _
  have hu0 := Rows2.ext hu hg0
  have hv0 := Rows2.ext hv hg0
  obtain ⟨au, capu, rfl, _, _⟩ := Sl.shape hu
  obtain ⟨av, capv, rfl, _, _⟩ := Sl.shape hv
  obtain ⟨vo6, vp6, vc6, _, _, hc0, hc1, hc2, h36⟩ := hp0.at
  simp only [Nat.zero_add] at hc1 hc2
  obtain ⟨a, ha⟩ : ∃ a, a = prodU P (cseq P H) (cseq P H).length := ⟨_, rfl⟩
  obtain ⟨b, hb⟩ : ∃ b, b = prodU P (cseq P K) (cseq P K).length := ⟨_, rfl⟩
  obtain ⟨c, hc⟩ : ∃ c, c = prodU P (cseq P (fun x => H x ∧ K x)) (cseq P (fun x => H x ∧ K x)).length := ⟨_, rfl⟩
  rw [← ha] at hbH hE
  rw [← hb] at hbK hE
  rw [← hc] at hbM hE
  have hab0 : 0 ≤ a * b := Int.mul_nonneg (by omega) (by omega)
  have hab1 : a * b ≤ 729 * 729 := Int.mul_le_mul (by omega) (by omega) (by omega) (by omega)
  have hq0 : 0 ≤ a * b / c := Int.ediv_nonneg hab0 (by omega)
  have hq1 : a * b / c ≤ a * b := Int.ediv_le_self _ hab0
  have e1 : IntKind.i64.wrap (a * b) = a * b := IntWalk.i64_in _ (by omega)
  have e2 : (a * b).tdiv c = a * b / c := Int.tdiv_eq_ediv_of_nonneg hab0
  have e3 : IntKind.i64.wrap (a * b / c) = a * b / c := IntWalk.i64_in _ (by omega)
  have hcz : (c == 0) = false := by simp; omega
  have hcn : ¬ c = 0 := by omega
  have hcp : (0 : Int) < c := by omega
  have HX := Lib.hid (And.intro hsH (And.intro hsK (And.intro hsM (And.intro hE (And.intro ha (And.intro hb hc)))))); clear hsH hsK hsM hE ha hb hc hp0 hu hv
  go_enter Tryz.func67, Tryz.ntmps67
  go_wp2
  generalize hw0 : w.alloc (.cells #[vo, vp, vc] 32) = w0 at *
  clear hw0
  have f1 : ∀ w', Ext w0 w' → w'.cell? ⟨w.heap.size, 0, none⟩ = some vo6 := fun w' h => h.cell hc0 (by simp)
  have f2 : ∀ w', Ext w0 w' → w'.cell? ⟨w.heap.size, 1, none⟩ = some vp6 := fun w' h => h.cell hc1 (by simp)
  have f3 : ∀ w', Ext w0 w' → w'.cell? ⟨w.heap.size, 2, none⟩ = some vc6 := fun w' h => h.cell hc2 (by simp)
  clear hc0 hc1 hc2
  go_region_held3 (fun w' => Ext w0 w') (first | exact grown_drew _ _ | assumption)
    (first
      | (revert hMR; intro hMR; go_at_call 59; refine Calls.mono (Calls.rel (w0 := w0) (by assumption) (l12Order_ok P hP _ _ _ (cseq P (fun x => H x ∧ K x)) Any Any ⟨_, _, _, rfl, Pres3.ext h36 (by assumption)⟩ hMR HX.out.2.2.1 (by omega))) ?_; rintro eD wD ⟨vD, rfl, hgD, hsD, hvD⟩; rw [← HX.out.2.2.2.2.2.2] at hvD; subst hvD)
      | (go_at_call 77; refine Calls.mono (Calls.rel (w0 := w0) (by assumption) (l13Meet_ok P G _ _ _ _ H K Any Any Any S R ⟨_, _, _, rfl, Pres3.ext h36 (by assumption)⟩ (Rows2.sub (Rows2.ext hu0 (by assumption)) (fun _ _ _ => trivial)) (Rows2.sub (Rows2.ext hv0 (by assumption)) (fun _ _ _ => trivial)))) ?_; rintro eC wC ⟨vC, rfl, hgC, hsC, hMR⟩; obtain ⟨am, capm, hvm, _, _⟩ := Sl.shape hMR; subst hvm)
      | (revert hgA; intro hgA; go_at_call 59; refine Calls.mono (Calls.rel (w0 := w0) (by assumption) (l12Order_ok P hP _ _ _ (cseq P K) Any Any ⟨_, _, _, rfl, Pres3.ext h36 (by assumption)⟩ (Rows2.sub (Rows2.ext hv0 (by assumption)) (fun _ _ _ => trivial)) HX.out.2.1 (by omega))) ?_; rintro eB wB ⟨vB, rfl, hgB, hsB, hvB⟩; rw [← HX.out.2.2.2.2.2.1] at hvB; subst hvB)
      | (go_at_call 59; refine Calls.mono (Calls.rel (w0 := w0) (by assumption) (l12Order_ok P hP _ _ _ (cseq P H) Any Any ⟨_, _, _, rfl, Pres3.ext h36 (by assumption)⟩ (Rows2.sub (Rows2.ext hu0 (by assumption)) (fun _ _ _ => trivial)) HX.out.1 (by omega))) ?_; rintro eA wA ⟨vA, rfl, hgA, hsA, hvA⟩; rw [← HX.out.2.2.2.2.1] at hvA; subst hvA))
  clear f1 f2 f3
  go_wp2
  go_ret
  exact ⟨_, rfl, grown_trans hg0 hgD, by rw [HX.out.2.2.2.1]; rfl⟩

set_option maxRecDepth 100000 in
set_option maxHeartbeats 4000000 in
theorem l13Conj_ok (P : Pr) (G : Grp P) (w : World) (pv uv xv : Value) (L : List (List Int)) (X : List Int) (Sp Su Sx : Nat → Prop) (hpv : PresV Sp w pv P) (hu : Rows2 Su w uv L) (hL : ∀ y ∈ L, Vec P.orders y) (hlen : L.length ≤ 10000) (hx : Ints Sx w xv X) (hX : Vec P.orders X) :
    Calls Tryz.prog 70 #[pv, uv, xv] w (Ret w fun w' v => Rows2 Any w' v (cseq P (genP P (fun z => z ∈ conjL P L X)))) := by
  have hP := G.v
  have hn6 := hP.n6
  obtain ⟨vo, vp, vc, rfl, h3⟩ := hpv
  have hp0 := PresP.box h3 32
  have hg0 : Ext w (w.alloc (.cells #[vo, vp, vc] 32)) := World.grownBy_alloc _ _ _
  have hs0 : (w.alloc (.cells #[vo, vp, vc] 32)).heap.size = w.heap.size + 1 := by simp
  have hu0 := Rows2.ext hu hg0
  have hx0 := hx.ext hg0
  obtain ⟨au, capu, rfl, _, _⟩ := Sl.shape hu
  obtain ⟨ax, capx, rfl, _, _⟩ := hx.shape
  obtain ⟨vo6, vp6, vc6, _, _, hc0, hc1, hc2, h36⟩ := hp0.at
  simp only [Nat.zero_add] at hc1 hc2
  have hcl : (conjL P L X).length = L.length := by unfold conjL; rw [List.length_map]
  have hCV : ∀ z ∈ conjL P L X, Vec P.orders z := fun z hz => by
    unfold conjL at hz
    obtain ⟨y, hy, rfl⟩ := List.mem_map.1 hz
    exact G.conjV (hL y hy) hX
  have HL := Lib.hid (And.intro hL (And.intro hX (And.intro hcl hCV))); clear hL hX hcl hCV hp0 hu hx
  go_enter Tryz.func70, Tryz.ntmps70
  go_wp2
  have HS := Lib.hid hs0; clear hs0
  generalize hw0 : w.alloc (.cells #[vo, vp, vc] 32) = w0 at *
  clear hw0
  have f1 : ∀ w', Ext w0 w' → w'.cell? ⟨w.heap.size, 0, none⟩ = some vo6 := fun w' h => h.cell hc0 (by simp)
  have f2 : ∀ w', Ext w0 w' → w'.cell? ⟨w.heap.size, 1, none⟩ = some vp6 := fun w' h => h.cell hc1 (by simp)
  have f3 : ∀ w', Ext w0 w' → w'.cell? ⟨w.heap.size, 2, none⟩ = some vc6 := fun w' h => h.cell hc2 (by simp)
  have HF := Lib.hid (And.intro f1 (And.intro f2 f3)); clear f1 f2 f3 hc0 hc1 hc2
  go_loopw [7, 8] (fun ov iv wr => ∃ (k : Nat) (v4 : Value), v4 = ov ∧ iv = .int .i64 k ∧ k ≤ L.length ∧ Ext w0 wr ∧ ShQ (fun _ => False) w0.heap.size wr v4 ((conjL P L X).take k)) (fun _ iv _ => L.length - (intOf iv).toNat)
  case atStart => exact ⟨0, _, rfl, rfl, by omega, World.grownBy_alloc _ _ _, by rw [← HS.out]; exact ShQ.lit _ _ _ (Nat.le_refl _)⟩
  case round =>
    obtain ⟨k, v4, rfl, rfl, hk, hg, hQ⟩ := hrel
    by_cases hlt : k < L.length
    · have hlt' : (k : Int) < L.length := by omega
      obtain ⟨b, off, a2, cap2, rfl, _, _, hc, hr⟩ := Rows2.at hu0 k hlt
      have hyV := HL.out.1 _ (gtMem hlt)
      have hstep : (conjL P L X).take (k + 1) = (conjL P L X).take k ++ [rConj P (gt L k) X] := by
        rw [take_succ_gt _ k (by rw [HL.out.2.2.1]; exact hlt)]
        unfold conjL
        rw [gt_map _ _ _ hlt]
      have htl : ((conjL P L X).take k).length ≤ 1000000 := by rw [List.length_take]; have := HL.out.2.2.1; omega
      have hcV := G.conjV hyV HL.out.2.1
      have hqlt : ∀ j, v4.ownBlock = some j → w0.heap.size ≤ j := fun j hj => (hQ.lt j hj).1
      have HST := Lib.hid (And.intro hstep (And.intro hyV (And.intro htl hcV))); clear hstep hyV htl hcV
      obtain ⟨f1, f2, f3⟩ := HF.out
      have f4 : ∀ w', Ext w0 w' → w'.cell? ⟨b, off + k, none⟩ = some (.slice a2 (gt L k).length cap2) := fun w' h => h.cell hc (by simp)
      clear hc
      go_wp2
      go_region_held3 (fun w' => Ext w0 w') (first | exact grown_trans hg (grown_drew _ _) | assumption | exact grown_trans hgC (World.grownBy_alloc _ _ _))
        (first
          | (go_at_call 115; refine Calls.mono (Calls.rel2 (w0 := w0) (by assumption) (l10Conj_ok P hP _ _ _ _ (gt L k) X Any Any Any ⟨_, _, _, rfl, Pres3.ext h36 (by assumption)⟩ (Ints.sub (Ints.ext hr (by assumption)) (fun _ _ _ => trivial)) (Ints.sub (Ints.ext hx0 (by assumption)) (fun _ _ _ => trivial)) HST.out.2.1 HL.out.2.1)) ?_; rintro eC wC ⟨vC, rfl, hgC, hgC2, hsC, hOC⟩; have hgrC : Ext wr wC := grown_trans (grown_drew _ _) hgC2; have hCI : Ints (fun j => ¬ False ∧ v4.ownBlock ≠ some j) wC vC (rConj P (gt L k) X) := ints_of_own hOC (by rw [HST.out.2.2.2.1]; omega) (fun j hj => ⟨id, fun e => by have h1 := (hOC.lt j hj).1; have h2 := (hQ.lt j e).2; have h3 : wr.heap.size ≤ wr.drew.heap.size := (grown_drew wr none).size; omega⟩); obtain ⟨aC, capC, hvC, _, _⟩ := hCI.shape; subst hvC)
          | (refine step_shq_app rfl _ _ rfl (fun _ => False) w0.heap.size v4 _ ((conjL P L X).take k) _ rfl wC (hQ.ext hgrC) rfl hCI rfl HST.out.2.2.1 hgC.size ?_; intro v5 w5 hQ5 hg5 hb5; have hgw5 : Ext w0 w5 := grown_own hgC hg5 (fun j hj hlt => by have := hqlt j hj; omega)))
      clear f1 f2 f3 f4
      rw [← HST.out.1] at hQ5
      go_wp2
      go_roundw
      case rel => exact ⟨k + 1, v5, rfl, by go_num, by omega, hgw5, hQ5⟩
      case measure => simp [intOf]; omega
    · have hke : k = L.length := by omega
      subst hke
      rw [List.take_of_length_le (by rw [HL.out.2.2.1]; exact Nat.le_refl _)] at hQ
      obtain ⟨f1, f2, f3⟩ := HF.out
      have hb0 := f1 wr hg
      have hb1 := f2 wr hg
      have hb2 := f3 wr hg
      clear f1 f2 f3
      have hQR := hQ.rows
      obtain ⟨aq, capq, hvq, _, _⟩ := Sl.shape hQR
      subst hvq
      go_wp2_with fail
      clear hb0 hb1 hb2
      refine Calls.mono (l12Close_ok P G wr _ _ (conjL P L X) Any Any ⟨_, _, _, rfl, Pres3.ext h36 hg⟩ hQR HL.out.2.2.2 (by have := HL.out.2.2.1; omega)) ?_
      rintro eF wF ⟨vF, rfl, hgF, hRF⟩
      go_wp2
      go_ret
      exact ⟨_, rfl, grown_trans hg0 (grown_trans hg hgF), hRF⟩

end Go.Proofs.YtchbegeklckgnaaGreat
