/-
  impl.isComplement, spec.l20Complement.
-/
import Derived.Test.YtchbegeklckgnaaGreatSSStab
import Derived.Test.YtchbegeklckgnaaGreatSTwo
namespace Go.Proofs.YtchbegeklckgnaaGreat
open Go.RowKit

noncomputable def cmplB (P : Pr) (H K : List Int → Prop) : Bool :=
  (prodU P (cseq P H) (cseq P H).length * prodU P (cseq P K) (cseq P K).length == ordP P) && (((cseq P (fun x => H x ∧ K x)).length : Int) == 0)

set_option maxRecDepth 100000 in
set_option maxHeartbeats 4000000 in
theorem isComplement_ok (P : Pr) (G : Grp P) (w : World) (p uv vv : Value) (H K : List Int → Prop) (Sp Su Sv : Nat → Prop) (S : Sub P H) (R : Sub P K) (hp : PresP Sp w p P) (hu : Rows2 Su w uv (cseq P H)) (hv : Rows2 Sv w vv (cseq P K)) :
    Calls Tryz.prog 89 #[p, uv, vv] w (Ret w fun _ v => v = .bool (cmplB P H K)) := by
  have hP := G.v
  have hn6 := hP.n6
  obtain ⟨pb, po, rfl⟩ := hp.shape
  have hlH := G.cseq_len S
  have hlK := G.cseq_len R
  have hlM := G.cseq_len (S.and R)
  have hsH := (G.seq_facts S).1
  have hsK := (G.seq_facts R).1
  have hbH := prodU_729 hP hsH _ (Nat.le_refl _)
  have hbK := prodU_729 hP hsK _ (Nat.le_refl _)
  have hE : cmplB P H K = ((prodU P (cseq P H) (cseq P H).length * prodU P (cseq P K) (cseq P K).length == ordP P) && (((cseq P (fun x => H x ∧ K x)).length : Int) == 0)) := rfl
  obtain ⟨au, capu, rfl, _, _⟩ := Sl.shape hu
  obtain ⟨av, capv, rfl, _, _⟩ := Sl.shape hv
  obtain ⟨a, ha⟩ : ∃ a, a = prodU P (cseq P H) (cseq P H).length := ⟨_, rfl⟩
  obtain ⟨b, hb⟩ : ∃ b, b = prodU P (cseq P K) (cseq P K).length := ⟨_, rfl⟩
  obtain ⟨o, ho⟩ : ∃ o, o = ordP P := ⟨_, rfl⟩
  rw [← ha] at hbH hE
  rw [← hb, ← ho] at hE
  rw [← hb] at hbK
  have hab0 : 0 ≤ a * b := Int.mul_nonneg (by omega) (by omega)
  have hab1 : a * b ≤ 729 * 729 := Int.mul_le_mul (by omega) (by omega) (by omega) (by omega)
  have e1 : IntKind.i64.wrap (a * b) = a * b := IntWalk.i64_in _ (by omega)
  have HX := Lib.hid (And.intro hsH (And.intro hsK (And.intro hE (And.intro ha (And.intro hb ho))))); clear hsH hsK hE ha hb ho
  go_enter Tryz.func89, Tryz.ntmps89
  go_wp2_with fail
  refine Calls.mono (sizeOf_ok P hP w _ _ (cseq P H) Sp Su hp hu HX.out.1 (by omega)) ?_
  rintro eA wA ⟨vA, rfl, hgA, rfl⟩
  rw [← HX.out.2.2.2.1]
  go_wp2_with fail
  refine Calls.mono (sizeOf_ok P hP wA _ _ (cseq P K) Sp Sv (hp.ext hgA) (Rows2.ext hv hgA) HX.out.2.1 (by omega)) ?_
  rintro eB wB ⟨vB, rfl, hgB, rfl⟩
  rw [← HX.out.2.2.2.2.1]
  have hgw := grown_trans hgA hgB
  go_wp2_with fail
  refine Calls.mono (orderOf_ok wB _ P Sp hP (hp.ext hgw)) ?_
  rintro eO wO ⟨rfl, rfl⟩
  rw [← HX.out.2.2.2.2.2]
  by_cases hq : a * b = o
  · have hq1 : (a * b == o) = true := by simp [hq]
    have HQ := Lib.hid hq; clear hq
    go_wp2_with fail
    refine Calls.mono (meet_ok P G wB _ _ _ H K Sp Su Sv S R (hp.ext hgw) (Rows2.ext hu hgw) (Rows2.ext hv hgw)) ?_
    rintro eC wC ⟨vC, rfl, hgC, hOC⟩
    have hgwC := grown_trans hgw hgC
    have hMR := RowsD.rows (SlO.toD hOC (by omega))
    obtain ⟨am, capm, hvm, _, _⟩ := Sl.shape hMR
    subst hvm
    go_wp2
    go_ret
    refine ⟨_, rfl, hgwC, ?_⟩
    rw [HX.out.2.2.1]
    simp [HQ.out]
  · have hq1 : (a * b == o) = false := by simp [hq]
    have HQ := Lib.hid hq; clear hq
    go_wp2
    go_ret
    refine ⟨_, rfl, hgw, ?_⟩
    rw [HX.out.2.2.1]
    simp [HQ.out]

set_option linter.unusedSimpArgs false in
set_option maxRecDepth 100000 in
set_option maxHeartbeats 4000000 in
theorem l20Complement_ok (P : Pr) (G : Grp P) (w : World) (pv uv vv : Value) (H K : List Int → Prop) (Sp Su Sv : Nat → Prop) (S : Sub P H) (R : Sub P K) (hpv : PresV Sp w pv P) (hu : Rows2 Su w uv (cseq P H)) (hv : Rows2 Sv w vv (cseq P K)) :
    Calls Tryz.prog 87 #[pv, uv, vv] w (Ret w fun _ v => v = .bool (cmplB P H K)) := by
  have hP := G.v
  have hn6 := hP.n6
  have hlH := G.cseq_len S
  have hlK := G.cseq_len R
  have hlM := G.cseq_len (S.and R)
  have hsH := (G.seq_facts S).1
  have hsK := (G.seq_facts R).1
  have hbH := prodU_729 hP hsH _ (Nat.le_refl _)
  have hbK := prodU_729 hP hsK _ (Nat.le_refl _)
  have hE : cmplB P H K = ((prodU P (cseq P H) (cseq P H).length * prodU P (cseq P K) (cseq P K).length == ordP P) && (((cseq P (fun x => H x ∧ K x)).length : Int) == 0)) := rfl
  obtain ⟨vo, vp, vc, rfl, h3⟩ := hpv
  have hp0 := PresP.box h3 32
  have hg0 : Ext w (w.alloc (.cells #[vo, vp, vc] 32)) := World.grownBy_alloc _ _ _
  have hu0 := Rows2.ext hu hg0
  have hv0 := Rows2.ext hv hg0
  obtain ⟨au, capu, rfl, _, _⟩ := Sl.shape hu
  obtain ⟨av, capv, rfl, _, _⟩ := Sl.shape hv
  obtain ⟨vo6, vp6, vc6, _, _, hc0, hc1, hc2, h36⟩ := hp0.at
  simp only [Nat.zero_add] at hc1 hc2
  obtain ⟨a, ha⟩ : ∃ a, a = prodU P (cseq P H) (cseq P H).length := ⟨_, rfl⟩
  obtain ⟨b, hb⟩ : ∃ b, b = prodU P (cseq P K) (cseq P K).length := ⟨_, rfl⟩
  obtain ⟨o, ho⟩ : ∃ o, o = ordP P := ⟨_, rfl⟩
  rw [← ha] at hbH hE
  rw [← hb, ← ho] at hE
  rw [← hb] at hbK
  have hab0 : 0 ≤ a * b := Int.mul_nonneg (by omega) (by omega)
  have hab1 : a * b ≤ 729 * 729 := Int.mul_le_mul (by omega) (by omega) (by omega) (by omega)
  have e1 : IntKind.i64.wrap (a * b) = a * b := IntWalk.i64_in _ (by omega)
  have HX := Lib.hid (And.intro hsH (And.intro hsK (And.intro hE (And.intro ha (And.intro hb ho))))); clear hsH hsK hE ha hb ho hp0 hu hv
  go_enter Tryz.func87, Tryz.ntmps87
  go_wp2
  generalize hw0 : w.alloc (.cells #[vo, vp, vc] 32) = w0 at *
  clear hw0
  have f1 : ∀ w', Ext w0 w' → w'.cell? ⟨w.heap.size, 0, none⟩ = some vo6 := fun w' h => h.cell hc0 (by simp)
  have f2 : ∀ w', Ext w0 w' → w'.cell? ⟨w.heap.size, 1, none⟩ = some vp6 := fun w' h => h.cell hc1 (by simp)
  have f3 : ∀ w', Ext w0 w' → w'.cell? ⟨w.heap.size, 2, none⟩ = some vc6 := fun w' h => h.cell hc2 (by simp)
  clear hc0 hc1 hc2
  by_cases hq : a * b = o
  · have hq1 : (a * b == o) = true := by simp [hq]
    have HQ := Lib.hid hq; clear hq
    go_region_held3 (fun w' => Ext w0 w') (first | exact grown_drew _ _ | assumption)
      (first
        | (go_at_call 79; refine Calls.mono (Calls.rel (w0 := w0) (by assumption) (l10Order_ok _ _ P Any hP ⟨_, _, _, rfl, Pres3.ext h36 (by assumption)⟩)) ?_; rintro eO wO ⟨vO, rfl, hgO, hsO, hvO⟩; rw [← HX.out.2.2.2.2.2] at hvO; subst hvO)
        | (go_at_call 77; refine Calls.mono (Calls.rel (w0 := w0) (by assumption) (l13Meet_ok P G _ _ _ _ H K Any Any Any S R ⟨_, _, _, rfl, Pres3.ext h36 (by assumption)⟩ (Rows2.sub (Rows2.ext hu0 (by assumption)) (fun _ _ _ => trivial)) (Rows2.sub (Rows2.ext hv0 (by assumption)) (fun _ _ _ => trivial)))) ?_; rintro eC wC ⟨vC, rfl, hgC, hsC, hMR⟩; obtain ⟨am, capm, hvm, _, _⟩ := Sl.shape hMR; subst hvm)
        | (revert hgA; intro hgA; go_at_call 59; refine Calls.mono (Calls.rel (w0 := w0) (by assumption) (l12Order_ok P hP _ _ _ (cseq P K) Any Any ⟨_, _, _, rfl, Pres3.ext h36 (by assumption)⟩ (Rows2.sub (Rows2.ext hv0 (by assumption)) (fun _ _ _ => trivial)) HX.out.2.1 (by omega))) ?_; rintro eB wB ⟨vB, rfl, hgB, hsB, hvB⟩; rw [← HX.out.2.2.2.2.1] at hvB; subst hvB)
        | (go_at_call 59; refine Calls.mono (Calls.rel (w0 := w0) (by assumption) (l12Order_ok P hP _ _ _ (cseq P H) Any Any ⟨_, _, _, rfl, Pres3.ext h36 (by assumption)⟩ (Rows2.sub (Rows2.ext hu0 (by assumption)) (fun _ _ _ => trivial)) HX.out.1 (by omega))) ?_; rintro eA wA ⟨vA, rfl, hgA, hsA, hvA⟩; rw [← HX.out.2.2.2.1] at hvA; subst hvA))
    clear f1 f2 f3
    go_wp2
    go_ret
    refine ⟨_, rfl, grown_trans hg0 hgC, ?_⟩
    rw [HX.out.2.2.1]
    simp [HQ.out]
  · have hq1 : (a * b == o) = false := by simp [hq]
    have HQ := Lib.hid hq; clear hq
    refine wp_region_held_drew (S := fun w' => Ext w0 w') (by kernel_rfl) (grown_drew _ _) (fun hHeld => ?_)
    refine wpAnyH_take (i := 0) (v := ?v0) rfl (by kernel_rfl) (by kernel_rfl) (by kernel_rfl) (fun _ _ _ h => h) (Or.inl ⟨by rfl, ?hy0⟩) (by assumption) ?rest0
    case hy0 => (intro w hSw; (try dsimp only at hSw); go_simp; try with_reducible rfl)
    try simp only [Act.put, List.setIfInBounds_toArray, List.set_cons_zero, List.set_cons_succ]
    refine wpAnyH_take (i := 1) (v := ?v1) rfl (by kernel_rfl) (by kernel_rfl) (by kernel_rfl) (fun _ _ _ h => h) (Or.inl ⟨by rfl, ?hy1⟩) (by assumption) ?rest1
    case hy1 => (intro w hSw; (try dsimp only at hSw); go_simp; try with_reducible rfl)
    try simp only [Act.put, List.setIfInBounds_toArray, List.set_cons_zero, List.set_cons_succ]
    refine wpAnyH_take (i := 3) (v := ?v3) rfl (by kernel_rfl) (by kernel_rfl) (by kernel_rfl) (fun _ _ _ h => h) (Or.inl ⟨by rfl, ?hy3⟩) (by assumption) ?rest3
    case hy3 => (intro w hSw; (try dsimp only at hSw); go_simp; try with_reducible rfl)
    try simp only [Act.put, List.setIfInBounds_toArray, List.set_cons_zero, List.set_cons_succ]
    refine wpAnyH_take (i := 4) (v := ?v4) rfl (by kernel_rfl) (by kernel_rfl) (by kernel_rfl) (fun _ _ _ h => h) (Or.inl ⟨by rfl, ?hy4⟩) (by assumption) ?rest4
    case hy4 => (intro w hSw; (try dsimp only at hSw); go_simp; try with_reducible rfl)
    try simp only [Act.put, List.setIfInBounds_toArray, List.set_cons_zero, List.set_cons_succ]
    refine wpAnyH_take (i := 7) (v := ?v7) rfl (by kernel_rfl) (by kernel_rfl) (by kernel_rfl) (fun _ _ _ h => h) (Or.inl ⟨by rfl, ?hy7⟩) (by assumption) ?rest7
    case hy7 => (intro w hSw; (try dsimp only at hSw); go_simp; try with_reducible rfl)
    try simp only [Act.put, List.setIfInBounds_toArray, List.set_cons_zero, List.set_cons_succ]
    refine wpAnyH_ready (rs := [2]) (by kernel_rfl) (by simp) ?_
    refine AllReadyH.cons rfl (fun Kc hKc => ?_) AllReadyH.nil
    go_simp
    go_at_call 59
    refine Calls.mono (Calls.rel (w0 := w0) (by assumption) (l12Order_ok P hP _ _ _ (cseq P H) Any Any ⟨_, _, _, rfl, Pres3.ext h36 (by assumption)⟩ (Rows2.sub (Rows2.ext hu0 (by assumption)) (fun _ _ _ => trivial)) HX.out.1 (by omega))) ?_
    rintro eA wA ⟨vA, rfl, hgA, hsA, hvA⟩
    rw [← HX.out.2.2.2.1] at hvA
    subst hvA
    go_wp2_with fail
    refine hKc.out _ _ ?_ (fun hHeld => ?_)
    · exact hgA
    clear hKc Kc
    try simp only [Act.put, List.setIfInBounds_toArray, List.set_cons_zero, List.set_cons_succ]
    refine wpAnyH_ready (rs := [5]) (by kernel_rfl) (by simp) ?_
    refine AllReadyH.cons rfl (fun Kc hKc => ?_) AllReadyH.nil
    go_simp
    go_at_call 59
    refine Calls.mono (Calls.rel (w0 := w0) hgA (l12Order_ok P hP _ _ _ (cseq P K) Any Any ⟨_, _, _, rfl, Pres3.ext h36 hgA⟩ (Rows2.sub (Rows2.ext hv0 hgA) (fun _ _ _ => trivial)) HX.out.2.1 (by omega))) ?_
    rintro eB wB ⟨vB, rfl, hgB, hsB, hvB⟩
    rw [← HX.out.2.2.2.2.1] at hvB
    subst hvB
    go_wp2_with fail
    refine hKc.out _ _ ?_ (fun hHeld => ?_)
    · exact hgB
    clear hKc Kc
    try simp only [Act.put, List.setIfInBounds_toArray, List.set_cons_zero, List.set_cons_succ]
    refine wpAnyH_take (i := 6) (v := ?v6) rfl (by kernel_rfl) (by kernel_rfl) (by kernel_rfl) (fun _ _ _ h => h) (Or.inl ⟨by rfl, ?hy6⟩) (by assumption) ?rest6
    case hy6 => (intro w hSw; (try dsimp only at hSw); go_simp; try with_reducible rfl)
    try simp only [Act.put, List.setIfInBounds_toArray, List.set_cons_zero, List.set_cons_succ]
    refine wpAnyH_ready (rs := [8]) (by kernel_rfl) (by simp) ?_
    refine AllReadyH.cons rfl (fun Kc hKc => ?_) AllReadyH.nil
    go_simp
    go_at_call 79
    refine Calls.mono (Calls.rel (w0 := w0) hgB (l10Order_ok _ _ P Any hP ⟨_, _, _, rfl, Pres3.ext h36 hgB⟩)) ?_
    rintro eO wO ⟨vO, rfl, hgO, hsO, hvO⟩
    rw [← HX.out.2.2.2.2.2] at hvO
    subst hvO
    go_wp2_with fail
    refine hKc.out _ _ ?_ (fun hHeld => ?_)
    · exact hgO
    clear hKc Kc
    try simp only [Act.put, List.setIfInBounds_toArray, List.set_cons_zero, List.set_cons_succ]
    refine wpAnyH_take (i := 9) (v := ?v9) rfl (by kernel_rfl) (by kernel_rfl) (by kernel_rfl) (fun _ _ _ h => h) (Or.inl ⟨by rfl, ?hy9⟩) (by assumption) ?rest9
    case hy9 => (intro w hSw; (try dsimp only at hSw); go_simp; try with_reducible rfl)
    try simp only [Act.put, List.setIfInBounds_toArray, List.set_cons_zero, List.set_cons_succ]
    refine wpAnyH_take (i := 10) (v := ?v10) rfl (by kernel_rfl) (by kernel_rfl) (by kernel_rfl) (fun _ _ _ h => h) (Or.inl ⟨by rfl, ?hy10⟩) (by assumption) ?rest10
    case hy10 => (intro w hSw; (try dsimp only at hSw); go_simp; try with_reducible rfl)
    try simp only [Act.put, List.setIfInBounds_toArray, List.set_cons_zero, List.set_cons_succ]
    refine wpAnyH_take (i := 11) (v := undef) rfl (by kernel_rfl) (by kernel_rfl) (by kernel_rfl) (fun _ _ _ h => h) (Or.inr ⟨by rfl, rfl⟩) (by assumption) ?_
    try simp only [Act.put, List.setIfInBounds_toArray, List.set_cons_zero, List.set_cons_succ]
    refine wpAnyH_take (i := 12) (v := undef) rfl (by kernel_rfl) (by kernel_rfl) (by kernel_rfl) (fun _ _ _ h => h) (Or.inr ⟨by rfl, rfl⟩) (by assumption) ?_
    try simp only [Act.put, List.setIfInBounds_toArray, List.set_cons_zero, List.set_cons_succ]
    refine wpAnyH_take (i := 13) (v := undef) rfl (by kernel_rfl) (by kernel_rfl) (by kernel_rfl) (fun _ _ _ h => h) (Or.inr ⟨by rfl, rfl⟩) (by assumption) ?_
    try simp only [Act.put, List.setIfInBounds_toArray, List.set_cons_zero, List.set_cons_succ]
    refine wpAnyH_take (i := 14) (v := undef) rfl (by kernel_rfl) (by kernel_rfl) (by kernel_rfl) (fun _ _ _ h => h) (Or.inr ⟨by rfl, rfl⟩) (by assumption) ?_
    try simp only [Act.put, List.setIfInBounds_toArray, List.set_cons_zero, List.set_cons_succ]
    refine wpAnyH_take (i := 15) (v := undef) rfl (by kernel_rfl) (by kernel_rfl) (by kernel_rfl) (fun _ _ _ h => h) (Or.inr ⟨by rfl, rfl⟩) (by assumption) ?_
    try simp only [Act.put, List.setIfInBounds_toArray, List.set_cons_zero, List.set_cons_succ]
    refine wpAnyH_take (i := 16) (v := undef) rfl (by kernel_rfl) (by kernel_rfl) (by kernel_rfl) (fun _ _ _ h => h) (Or.inr ⟨by rfl, rfl⟩) (by assumption) ?_
    try simp only [Act.put, List.setIfInBounds_toArray, List.set_cons_zero, List.set_cons_succ]
    refine wpAnyH_take (i := 17) (v := ?v17) rfl (by kernel_rfl) (by kernel_rfl) (by kernel_rfl) (fun _ _ _ h => h) (Or.inl ⟨by rfl, ?hy17⟩) (by assumption) ?rest17
    case hy17 => (intro w hSw; (try dsimp only at hSw); go_simp; try with_reducible rfl)
    try simp only [Act.put, List.getElem_toArray, List.getElem_cons_succ, List.getElem_cons_zero, List.setIfInBounds_toArray, List.set_cons_zero, List.set_cons_succ]
    refine wpAnyH_take (i := 18) (v := ?v18) rfl (by kernel_rfl) (by kernel_rfl) (by kernel_rfl) (fun _ _ _ h => h) (Or.inl ⟨by rfl, ?hy18⟩) (by assumption) ?rest18
    case hy18 => (intro w hSw; (try dsimp only at hSw); go_simp; try with_reducible rfl)
    try simp only [Act.put, List.getElem_toArray, List.getElem_cons_succ, List.getElem_cons_zero, List.setIfInBounds_toArray, List.set_cons_zero, List.set_cons_succ]
    refine wpAnyH_done (by kernel_rfl) ?_ _
    clear f1 f2 f3
    go_wp2
    go_ret
    refine ⟨_, rfl, grown_trans hg0 hgO, ?_⟩
    rw [HX.out.2.2.1]
    simp [HQ.out]

end Go.Proofs.YtchbegeklckgnaaGreat
