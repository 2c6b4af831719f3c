/-
  The reference's test of a sequence: spec.l10Element, l10Elements, l01Same2, l12Is, IsSubgroup, l13Two.
  spec.l19Insert.
  append of a row that lay there before: the list takes it out of the set of blocks that it avoids.
  [][]int64{row} as a list of the call's own.
  impl.elementsOf.
  Small things of the subgroup statements.
  spec.l19Bits: the mask of a subgroup's sequence.
  spec.l19Full: the lattice by the reference.
  Vectors of different kinds lie in different blocks; an append that tells where the new vector lies.
  (*impl.lattice).classes: the first subgroups of the classes of conjugate subgroups, and the sizes.
-/
import Derived.Test.YtdklekdpdbjfiaaGreatM7
import Derived.Test.YtdklekdpdbjfiaaGreatM4
import Derived.Test.YtdklekdpdbjfiaaGreatM5
import Derived.Test.YtdklekdpdbjfiaaGreatM6
/- The reference's test of a sequence: spec.l10Element, l10Elements, l01Same2, l12Is, IsSubgroup, l13Two. -/
namespace Go.Proofs.YtdklekdpdbjfiaaGreat
open Go.RowKit
theorem expZ_neg (o e : List Int) : expZB o e (-1) = expB o e := by
 unfold expZB expB
 congr 1
 congr 1
 funext i
 have : decide ((i : Int) ≤ -1) = false := by simp; omega
 rw [this]; simp
theorem l10Element_ok (P : Pr) (hP : Valid P) (w : World) (pv xv : Value) (X : List Int) (Sp Sx : Nat → Prop) (hpv : PresV Sp w pv P) (hx : Ints Sx w xv X) :
  Calls Tryz.prog 173 #[pv, xv] w (Ret w fun _ v => v = .bool (expB P.orders X)) := by
 obtain ⟨vo, vp, vc, rfl, h3⟩ := hpv
 have hp0 := PresP.box h3 31
 have hg0 : Ext w (w.alloc (.cells #[vo, vp, vc] 31)) := World.grownBy_alloc _ _ _
 have hx0 := hx.ext hg0
 obtain ⟨ao, capo, hco, hoi⟩ := hp0.ordAt
 obtain ⟨ax, capx, rfl, _, _⟩ := hx.shape
 have hcon := l07Exponents_ok _ _ _ P.orders X (-1) Any Sx hoi hx0 (fun i hi => by have := hP.ord7 i hi; omega)
 rw [expZ_neg] at hcon
 go_enter Tryz.func173, Tryz.ntmps173
 go_wp2_with fail
 refine Calls.mono hcon ?_
 rintro e1 w1 ⟨rfl, hd⟩
 clear hcon
 go_wp2
 go_ret
 exact ⟨_, rfl, grown_trans hg0 hd.ext, rfl⟩
set_option maxHeartbeats 1000000 in
theorem l10Elements_ok (P : Pr) (hP : Valid P) (w : World) (pv lv : Value) (L : List (List Int)) (Sp Sr : Nat → Prop) (hpv : PresV Sp w pv P) (hl : Rows2 Sr w lv L) :
  Calls Tryz.prog 108 #[pv, lv] w (Ret w fun _ v => ∃ r : Bool, v = .bool r ∧ (r = true ↔ ∀ x ∈ L, Vec P.orders x)) := by
 obtain ⟨vo, vp, vc, rfl, h3⟩ := hpv
 have hp0 := PresP.box h3 31
 have hg0 : Ext w (w.alloc (.cells #[vo, vp, vc] 31)) := World.grownBy_alloc _ _ _
 have hl0 := Rows2.ext hl hg0
 obtain ⟨al, capl, rfl, _, _⟩ := Sl.shape hl
 obtain ⟨vo6, vp6, vc6, _, _, hc0, hc1, hc2, h36⟩ := hp0.at
 simp only [Nat.zero_add] at hc1 hc2
 clear hp0 hl
 go_enter Tryz.func108, Tryz.ntmps108
 go_wp2
 generalize hw0 : w.alloc (.cells #[vo, vp, vc] 31) = w0 at *
 clear hw0
 go_loopw [5] (fun iv wr => ∃ i : Nat, iv = .int .i64 i ∧ i ≤ L.length ∧ Ext w0 wr ∧ Hid (∀ j, j < i → Vec P.orders (gt L j))) (fun iv _ => L.length - (intOf iv).toNat)
 case atStart => exact ⟨0, rfl, by omega, Ext.refl _, Lib.hid (fun j h => by omega)⟩
 case round =>
  obtain ⟨i, rfl, hi, hg, hV⟩ := hrel
  by_cases hlt : i < L.length
  ·have hlt' : (i : Int) < L.length := by omega
   obtain ⟨b, off, a2, cap2, rfl, _, _, hc, hr⟩ := Rows2.at (Rows2.ext hl0 hg) i hlt
   have e1 : ∀ w', Ext wr w' → w'.cell? ⟨w.heap.size, 0, none⟩ = some vo6 := fun w' h => (grown_trans hg h).cell hc0 (by simp)
   have e2 : ∀ w', Ext wr w' → w'.cell? ⟨w.heap.size, 1, none⟩ = some vp6 := fun w' h => (grown_trans hg h).cell hc1 (by simp)
   have e3 : ∀ w', Ext wr w' → w'.cell? ⟨w.heap.size, 2, none⟩ = some vc6 := fun w' h => (grown_trans hg h).cell hc2 (by simp)
   have e4 : ∀ w', Ext wr w' → w'.cell? ⟨b, off + i, none⟩ = some (.slice a2 (gt L i).length cap2) := fun w' h => h.cell hc (by simp)
   clear hc
   cases hx : expB P.orders (gt L i) with
   | true =>
    have HX := Lib.hid (expB_vec.1 hx)
    have HX2 := Lib.hid hx; clear hx
    go_wp2
    go_region_held3 (fun w' => Ext wr w') (first | exact grown_drew _ _ | assumption)
     (first
      | (go_at_call 173; refine Calls.mono (Calls.rel (w0 := wr) (by assumption) (l10Element_ok P hP _ _ _ (gt L i) Any Any ⟨_, _, _, rfl, Pres3.ext (Pres3.ext h36 hg) (by assumption)⟩ (Ints.sub (Ints.ext hr (by assumption)) (fun _ _ _ => trivial)))) ?_; rintro eA wA ⟨vA, rfl, hgA, hsA, hvA⟩; rw [HX2.out] at hvA; subst hvA))
    clear e1 e2 e3 e4
    go_wp2
    go_roundw
    case rel => exact ⟨i + 1, by go_num, by omega, grown_trans hg hgA, Lib.hid (fun j hj => by
     rcases Nat.lt_succ_iff_lt_or_eq.1 hj with h | h
     ·exact hV.out j h
     ·rw [h]; exact HX.out)⟩
    case measure => simp [intOf]; omega
   | false =>
    have hno : ¬ ∀ x ∈ L, Vec P.orders x := fun h => by
     have := expB_vec.2 (h _ (gtMem hlt))
     rw [hx] at this; cases this
    have HX := Lib.hid hno
    have HX2 := Lib.hid hx; clear hx hno
    go_wp2
    go_region_held3 (fun w' => Ext wr w') (first | exact grown_drew _ _ | assumption)
     (first
      | (go_at_call 173; refine Calls.mono (Calls.rel (w0 := wr) (by assumption) (l10Element_ok P hP _ _ _ (gt L i) Any Any ⟨_, _, _, rfl, Pres3.ext (Pres3.ext h36 hg) (by assumption)⟩ (Ints.sub (Ints.ext hr (by assumption)) (fun _ _ _ => trivial)))) ?_; rintro eA wA ⟨vA, rfl, hgA, hsA, hvA⟩; rw [HX2.out] at hvA; subst hvA))
    clear e1 e2 e3 e4
    go_wp2
    go_ret
    exact ⟨_, rfl, grown_trans hg0 (grown_trans hg hgA), false, rfl, by simp only [Bool.false_eq_true, false_iff]; exact HX.out⟩
  ·have hie : i = L.length := by omega
   subst hie
   go_wp2
   go_ret
   exact ⟨_, rfl, grown_trans hg0 hg, true, rfl, by
    simp only [true_iff]
    intro x hx
    obtain ⟨l, hl, rfl⟩ := List.getElem_of_mem hx
    rw [← gt_eq L l hl]; exact hV.out l hl⟩
set_option maxRecDepth 100000 in
set_option maxHeartbeats 2000000 in
theorem l01Same2_ok (v1 v2 : Value) (l1 l2 : List (List Int)) (w : World) (S1 S2 : Nat → Prop) (h1 : Rows2 S1 w v1 l1) (h2 : Rows2 S2 w v2 l2) :
  Calls Tryz.prog 109 #[v1, v2] w (Ret w fun _ v => v = .bool (eqB l1 l2)) := by
 obtain ⟨a, cap, rfl, _, _⟩ := Sl.shape h1
 obtain ⟨a2, cap2, rfl, _, _⟩ := Sl.shape h2
 by_cases hl : l1.length = l2.length
 ·have hd : ((l1.length : Int) != (l2.length : Int)) = false := by simp [hl]
  have hl1 : l1.length ≤ l2.length ∧ l2.length ≤ l1.length := by omega
  have HL := Lib.hid hl; clear hl
  go_enter Tryz.func109, Tryz.ntmps109
  go_wp2
  go_loopw [5] (fun i wr => ∃ k : Nat, i = .int .i64 k ∧ k ≤ l1.length ∧ Ext w wr ∧ ∀ i, i < k → gt l1 i = gt l2 i) (fun i _ => l1.length - (intOf i).toNat)
  case atStart => exact ⟨0, rfl, by omega, Ext.refl _, fun i hi => by omega⟩
  case round =>
   obtain ⟨k, rfl, hk, hg, hz⟩ := hrel
   have HZ := Lib.hid hz; clear hz
   by_cases hlt : k < l1.length
   ·obtain ⟨b, off, x1, c1, rfl, _, _, hc, hi1⟩ := Rows2.at (Rows2.ext h1 hg) k hlt
    obtain ⟨b2, off2, x2, c2, rfl, _, _, hc2, hi2⟩ := Rows2.at (Rows2.ext h2 hg) k (by omega)
    have e1 : ∀ w', Ext wr w' → w'.cell? ⟨b, off + k, none⟩ = some (.slice x1 (gt l1 k).length c1) := fun w' h => h.cell hc (by simp)
    have e2 : ∀ w', Ext wr w' → w'.cell? ⟨b2, off2 + k, none⟩ = some (.slice x2 (gt l2 k).length c2) := fun w' h => h.cell hc2 (by simp)
    clear hc hc2
    have hlt2 : k < l2.length := by omega
    go_wp2
    cases hx : eqB (gt l1 k) (gt l2 k) with
    | true =>
     have hx2 := Lib.hid hx
     go_region_held3 (fun w' => Ext wr w') (first | exact grown_drew _ _ | assumption)
      (first
       | (go_at_call 174; refine Calls.mono (Calls.rel (w0 := wr) (by assumption) (l01Same_ok _ _ _ _ _ Any Any (Ints.sub (Ints.ext hi1 (by assumption)) (fun _ _ _ => trivial)) (Ints.sub (Ints.ext hi2 (by assumption)) (fun _ _ _ => trivial)))) ?_; rintro eA wA ⟨vA, rfl, hgA, hsA, rfl⟩))
     clear e1 e2
     go_wp2
     go_roundw
     case rel => exact ⟨k + 1, by go_num, by omega, grown_trans hg hgA, fun i hi => by
      rcases Nat.lt_or_ge i k with h1 | h1
      ·exact HZ.out i h1
      ·have : i = k := by omega
       rw [this]; exact eqB_true.1 hx2.out⟩
     case measure => simp [intOf]; omega
    | false =>
     have hx2 := Lib.hid hx
     go_region_held3 (fun w' => Ext wr w') (first | exact grown_drew _ _ | assumption)
      (first
       | (go_at_call 174; refine Calls.mono (Calls.rel (w0 := wr) (by assumption) (l01Same_ok _ _ _ _ _ Any Any (Ints.sub (Ints.ext hi1 (by assumption)) (fun _ _ _ => trivial)) (Ints.sub (Ints.ext hi2 (by assumption)) (fun _ _ _ => trivial)))) ?_; rintro eA wA ⟨vA, rfl, hgA, hsA, rfl⟩))
     clear e1 e2
     go_wp2
     go_ret
     exact ⟨_, rfl, grown_trans hg hgA, by rw [eqB_false_at (hx := eqB_false.1 hx2.out)]; rfl⟩
   ·go_wp2
    go_ret
    exact ⟨_, rfl, hg, by rw [eqB_true.2 (ext_gt HL.out (fun i hi => HZ.out i (by omega)))]; rfl⟩
 ·have hd : ((l1.length : Int) != (l2.length : Int)) = true := by simp; omega
  have HL := Lib.hid hl; clear hl
  go_enter Tryz.func109, Tryz.ntmps109
  go_wp2
  go_ret
  exact ⟨_, rfl, Ext.refl _, by rw [eqB_false.2 (fun e => HL.out (by rw [e]))]; rfl⟩
theorem subB_iff {P : Pr} (G : Grp P) (u : List (List Int)) : SubB P u ↔ u.length ≤ P.orders.length ∧ (∀ x ∈ u, Vec P.orders x) ∧ cseq P (genP P (fun x => x ∈ u)) = u :=
 ⟨fun h => ⟨G.sub_len h, h.1, h.2.symm⟩, fun h => ⟨h.2.1, h.2.2.symm⟩⟩
set_option maxRecDepth 100000 in
set_option maxHeartbeats 4000000 in
theorem l12Is_ok (P : Pr) (G : Grp P) (w : World) (pv uv : Value) (U : List (List Int)) (Sp Su : Nat → Prop) (hpv : PresV Sp w pv P) (hu : Rows2 Su w uv U) :
  Calls Tryz.prog 59 #[pv, uv] w (Ret w fun _ v => ∃ r : Bool, v = .bool r ∧ (r = true ↔ SubB P U)) := by
 have hP := G.v
 have hn6 := hP.n6
 obtain ⟨vo, vp, vc, rfl, h3⟩ := hpv
 have hp0 := PresP.box h3 31
 have hg0 : Ext w (w.alloc (.cells #[vo, vp, vc] 31)) := World.grownBy_alloc _ _ _
 obtain ⟨vo6, vp6, vc6, _, _, hc0, hc1, hc2, h36⟩ := hp0.at
 simp only [Nat.zero_add] at hc1 hc2
 obtain ⟨ao, capo, rfl, _, _⟩ := h36.o.shape
 have hu0 := Rows2.ext hu hg0
 obtain ⟨au, capu, rfl, _, _⟩ := Sl.shape hu
 clear hp0 hu
 have hiff := subB_iff G U
 go_enter Tryz.func59, Tryz.ntmps59
 by_cases hl : U.length ≤ P.orders.length
 ·have hle : (U.length : Int) ≤ P.orders.length := by omega
  have hE := l10Elements_ok P hP (w.alloc (.cells #[vo, vp, vc] 31)) _ _ U Any Su ⟨_, _, _, rfl, h36⟩ hu0
  go_wp2_with fail
  generalize hw0 : w.alloc (.cells #[vo, vp, vc] 31) = w0 at *
  clear hw0
  refine Calls.mono hE ?_
  rintro e1 w1 ⟨v1, rfl, hg1, r1, rfl, hr1⟩
  clear hE
  have hb0 := hg1.cell hc0 (by simp)
  have hb1 := hg1.cell hc1 (by simp)
  have hb2 := hg1.cell hc2 (by simp)
  cases r1 with
  | false =>
   have hno : ¬ SubB P U := fun h => by have := hr1.2 (hiff.1 h).2.1; cases this
   have HN := Lib.hid hno; clear hno hiff hr1 hc0 hc1 hc2
   go_wp2
   go_ret
   exact ⟨_, rfl, grown_trans hg0 hg1, false, rfl, by simp only [Bool.false_eq_true, false_iff]; exact HN.out⟩
  | true =>
   have hV := hr1.1 rfl
   have HI := Lib.hid (And.intro hiff hV); clear hiff hV hr1 hc0 hc1 hc2
   go_wp2_with fail
   clear hb0 hb1 hb2
   refine Calls.mono (l12Close_ok P G w1 _ _ U Any Su ⟨_, _, _, rfl, Pres3.ext h36 hg1⟩ (Rows2.ext hu0 hg1) HI.out.2 (by omega)) ?_
   rintro e2 w2 ⟨v2, rfl, hg2, hR2⟩
   obtain ⟨a2, cap2, rfl, _, _⟩ := Sl.shape hR2
   go_wp2_with fail
   refine Calls.mono (l01Same2_ok _ _ _ U w2 _ _ hR2 (Rows2.ext (Rows2.ext hu0 hg1) hg2)) ?_
   rintro e3 w3 ⟨v3, rfl, hg3, rfl⟩
   go_wp2
   go_ret
   exact ⟨_, rfl, grown_trans hg0 (grown_trans hg1 (grown_trans hg2 hg3)), _, rfl, by
    rw [eqB_true, HI.out.1]
    exact ⟨fun h => ⟨hl, HI.out.2, h⟩, fun h => h.2.2⟩⟩
 ·have hle : ¬ (U.length : Int) ≤ P.orders.length := by omega
  have hno : ¬ SubB P U := fun h => hl (hiff.1 h).1
  have HN := Lib.hid hno; clear hno hiff hl
  go_wp2
  go_ret
  exact ⟨_, rfl, hg0, .inl ⟨rfl, HN.out⟩⟩
set_option maxRecDepth 100000 in
set_option maxHeartbeats 2000000 in
theorem sIsSubgroup_ok (P : Pr) (w : World) (pv uv : Value) (U : List (List Int)) (Sp Su : Nat → Prop) (hpv : PresV Sp w pv P) (hu : Rows2 Su w uv U) :
  Calls Tryz.prog 158 #[pv, uv] w (Ret w fun _ v => ∃ r : Bool, v = .bool r ∧ (r = true ↔ rconsB P = true ∧ SubB P U)) := by
 obtain ⟨vo, vp, vc, rfl, h3⟩ := hpv
 have hp0 := PresP.box h3 31
 have hg0 : Ext w (w.alloc (.cells #[vo, vp, vc] 31)) := World.grownBy_alloc _ _ _
 obtain ⟨vo6, vp6, vc6, _, _, hc0, hc1, hc2, h36⟩ := hp0.at
 simp only [Nat.zero_add] at hc1 hc2
 have hu0 := Rows2.ext hu hg0
 obtain ⟨au, capu, rfl, _, _⟩ := Sl.shape hu
 clear hp0 hu
 have hE := l08Group_ok P (w.alloc (.cells #[vo, vp, vc] 31)) _ Any ⟨_, _, _, rfl, h36⟩
 go_enter Tryz.func158, Tryz.ntmps158
 go_wp2_with fail
 generalize hw0 : w.alloc (.cells #[vo, vp, vc] 31) = w0 at *
 clear hw0
 refine Calls.mono hE ?_
 rintro e1 w1 ⟨v1, rfl, hg1, rfl⟩
 clear hE
 have hb0 := hg1.cell hc0 (by simp)
 have hb1 := hg1.cell hc1 (by simp)
 have hb2 := hg1.cell hc2 (by simp)
 clear hc0 hc1 hc2
 cases hr : rconsB P with
 | false =>
  have HR := Lib.hid hr; clear hr
  go_wp2
  go_ret
  exact ⟨_, rfl, grown_trans hg0 hg1, false, rfl, by simp only [Bool.false_eq_true, false_iff]; rintro ⟨h, _⟩; rw [HR.out] at h; exact Bool.noConfusion h⟩
 | true =>
  have G := grp_of_r hr
  have HR := Lib.hid hr; clear hr
  go_wp2_with fail
  clear hb0 hb1 hb2
  refine Calls.mono (l12Is_ok P G w1 _ _ U Any Su ⟨_, _, _, rfl, Pres3.ext h36 hg1⟩ (Rows2.ext hu0 hg1)) ?_
  rintro e2 w2 ⟨v2, rfl, hg2, r2, rfl, hr2⟩
  have HR2 := Lib.hid hr2; clear hr2
  go_wp2
  go_ret
  exact ⟨_, rfl, grown_trans hg0 (grown_trans hg1 hg2), r2, rfl, ⟨fun h => ⟨HR.out, HR2.out.1 h⟩, fun h => HR2.out.2 h.2⟩⟩
set_option maxRecDepth 100000 in
set_option maxHeartbeats 2000000 in
theorem l13Two_ok (P : Pr) (w : World) (pv uv vv : Value) (U V : List (List Int)) (Sp Su Sv : Nat → Prop) (hpv : PresV Sp w pv P) (hu : Rows2 Su w uv U) (hv : Rows2 Sv w vv V) :
  Calls Tryz.prog 160 #[pv, uv, vv] w (Ret w fun _ v => ∃ r : Bool, v = .bool r ∧ (r = true ↔ rconsB P = true ∧ SubB P U ∧ SubB P V)) := by
 obtain ⟨vo, vp, vc, rfl, h3⟩ := hpv
 have hp0 := PresP.box h3 31
 have hg0 : Ext w (w.alloc (.cells #[vo, vp, vc] 31)) := World.grownBy_alloc _ _ _
 obtain ⟨vo6, vp6, vc6, _, _, hc0, hc1, hc2, h36⟩ := hp0.at
 simp only [Nat.zero_add] at hc1 hc2
 have hu0 := Rows2.ext hu hg0
 have hv0 := Rows2.ext hv hg0
 obtain ⟨au, capu, rfl, _, _⟩ := Sl.shape hu
 obtain ⟨av, capv, rfl, _, _⟩ := Sl.shape hv
 clear hp0 hu hv
 have hE := sIsSubgroup_ok P (w.alloc (.cells #[vo, vp, vc] 31)) _ _ U Any Su ⟨_, _, _, rfl, h36⟩ hu0
 go_enter Tryz.func160, Tryz.ntmps160
 go_wp2_with fail
 generalize hw0 : w.alloc (.cells #[vo, vp, vc] 31) = w0 at *
 clear hw0
 refine Calls.mono hE ?_
 rintro e1 w1 ⟨v1, rfl, hg1, r1, rfl, hr1⟩
 clear hE
 have hb0 := hg1.cell hc0 (by simp)
 have hb1 := hg1.cell hc1 (by simp)
 have hb2 := hg1.cell hc2 (by simp)
 clear hc0 hc1 hc2
 cases r1 with
 | false =>
  have HR := Lib.hid hr1; clear hr1
  go_wp2
  go_ret
  exact ⟨_, rfl, grown_trans hg0 hg1, false, rfl, by
   simp only [Bool.false_eq_true, false_iff]
   rintro ⟨h, h2, _⟩
   have := HR.out.2 ⟨h, h2⟩; cases this⟩
 | true =>
  obtain ⟨hr, hS⟩ := hr1.1 rfl
  have G := grp_of_r hr
  have HR := Lib.hid (And.intro hr hS); clear hr hS hr1
  go_wp2_with fail
  clear hb0 hb1 hb2
  refine Calls.mono (l12Is_ok P G w1 _ _ V Any Sv ⟨_, _, _, rfl, Pres3.ext h36 hg1⟩ (Rows2.ext hv0 hg1)) ?_
  rintro e2 w2 ⟨v2, rfl, hg2, r2, rfl, hr2⟩
  have HR2 := Lib.hid hr2; clear hr2
  go_wp2
  go_ret
  exact ⟨_, rfl, grown_trans hg0 (grown_trans hg1 hg2), r2, rfl, by rw [HR2.out]; exact ⟨fun h => ⟨HR.out.1, HR.out.2, h⟩, fun h => h.2.2⟩⟩
end Go.Proofs.YtdklekdpdbjfiaaGreat

/- spec.l19Insert. -/
namespace Go.Proofs.YtdklekdpdbjfiaaGreat
open Go.RowKit
theorem ins_start (P : Pr) (L : List (List (List Int))) (u : List (List Int)) : Ins P L u 0 [] false :=
 ⟨fun j hj => by omega, fun _ => ⟨by simp, fun j hj => by omega⟩, fun h => by cases h⟩
theorem ins_new {P : Pr} {L : List (List (List Int))} {u : List (List Int)} {k : Nat} {out : List (List (List Int))} {b : Bool} (I : Ins P L u k out b) (hne : gt L k ≠ u) : ∀ j, j < k + 1 → gt L j ≠ u := fun j hj => by
 rcases Nat.lt_succ_iff_lt_or_eq.1 hj with h | h
 ·exact I.new j h
 ·subst h; exact hne
theorem ins_no {P : Pr} {L : List (List (List Int))} {u : List (List Int)} {k : Nat} {out : List (List (List Int))} (I : Ins P L u k out false) (hk : k < L.length) (hne : gt L k ≠ u) (h : ¬ subLt P u (gt L k)) : Ins P L u (k + 1) (out ++ [gt L k]) false := by
 refine ⟨ins_new I hne, fun _ => ?_, fun h => by cases h⟩
 obtain ⟨h1, h2⟩ := I.no rfl
 refine ⟨by rw [take_succ_gt L k hk, h1], fun j hj => ?_⟩
 rcases Nat.lt_succ_iff_lt_or_eq.1 hj with h3 | h3
 ·exact h2 j h3
 ·subst h3; exact h
theorem ins_put {P : Pr} {L : List (List (List Int))} {u : List (List Int)} {k : Nat} {out : List (List (List Int))} (I : Ins P L u k out false) (hk : k < L.length) (hne : gt L k ≠ u) (h : subLt P u (gt L k)) : Ins P L u (k + 1) (out ++ [u] ++ [gt L k]) true := by
 refine ⟨ins_new I hne, (fun h => by cases h), fun _ => ?_⟩
 obtain ⟨h1, h2⟩ := I.no rfl
 refine ⟨k, by omega, ?_, h, h2⟩
 have hd : (L.take (k + 1)).drop k = [gt L k] := by
  rw [take_succ_gt L k hk]
  have : k = (L.take k).length := by rw [List.length_take]; omega
  rw [List.drop_append_of_le_length (by omega), List.drop_of_length_le (by omega)]; rfl
 rw [hd, h1]; simp
theorem ins_yes {P : Pr} {L : List (List (List Int))} {u : List (List Int)} {k : Nat} {out : List (List (List Int))} (I : Ins P L u k out true) (hk : k < L.length) (hne : gt L k ≠ u) : Ins P L u (k + 1) (out ++ [gt L k]) true := by
 refine ⟨ins_new I hne, (fun h => by cases h), fun _ => ?_⟩
 obtain ⟨p, h1, h2, h3, h4⟩ := I.yes rfl
 refine ⟨p, by omega, ?_, h3, h4⟩
 have hd : (L.take (k + 1)).drop p = (L.take k).drop p ++ [gt L k] := by
  rw [take_succ_gt L k hk, List.drop_append_of_le_length (by rw [List.length_take]; omega)]
 rw [hd, h2]; simp
set_option linter.unusedSimpArgs false in
set_option maxRecDepth 100000 in
set_option maxHeartbeats 8000000 in
theorem l19Insert_ok (P : Pr) (G : Grp P) (w : World) (pv lv uv : Value) (L : List (List (List Int))) (u : List (List Int)) (Sp S : Nat → Prop) (hpv : PresV Sp w pv P) (hl : Rows3 S w lv L) (hu : Rows2 S w uv u) (hL : ∀ v ∈ L, SubB P v) (hub : SubB P u) (hlp : L.Pairwise (subLt P)) (hlen : L.length ≤ 100000) :
  Calls Tryz.prog 128 #[pv, lv, uv] w (Ret w fun w' r => ∃ R : List (List (List Int)), R.Pairwise (subLt P) ∧ (∀ v, v ∈ R ↔ v ∈ L ∨ v = u) ∧ R.length ≤ L.length + 1 ∧ Rows3 (fun k => S k ∨ w.heap.size ≤ k) w' r R) := by
 have hP := G.v
 have hn6 := hP.n6
 obtain ⟨vo, vp, vc, rfl, h3⟩ := hpv
 have hp0 := PresP.box h3 31
 have hg0 : Ext w (w.alloc (.cells #[vo, vp, vc] 31)) := World.grownBy_alloc _ _ _
 have hs0 : (w.alloc (.cells #[vo, vp, vc] 31)).heap.size = w.heap.size + 1 := by simp
 obtain ⟨vo6, vp6, vc6, _, _, hc0, hc1, hc2, h36⟩ := hp0.at
 simp only [Nat.zero_add] at hc1 hc2
 have hbx : ∀ w', Ext (w.alloc (.cells #[vo, vp, vc] 31)) w' → w'.cell? ⟨w.heap.size, 0, none⟩ = some vo6 ∧ w'.cell? ⟨w.heap.size, 1, none⟩ = some vp6 ∧ w'.cell? ⟨w.heap.size, 2, none⟩ = some vc6 := fun w' h => ⟨h.cell hc0 (by simp), h.cell hc1 (by simp), h.cell hc2 (by simp)⟩
 have hseq : ∀ v, SubB P v → SeqOk P v ∧ v.length ≤ 100 := fun v h1 => by
  have h2 := (G.seq_facts (G.subB h1)).1
  rw [← h1.2] at h2
  have := G.sub_len h1
  exact ⟨h2, by omega⟩
 have HB := Lib.hid (And.intro hbx (And.intro hs0 (And.intro hseq (And.intro hL hub)))); clear hbx hs0 hseq hL hub hp0
 obtain ⟨al, capl, rfl, _, _⟩ := Sl.shape hl
 obtain ⟨au, capu, rfl, _, _⟩ := Sl.shape hu
 have hu0 := Rows2.ext hu hg0
 go_enter Tryz.func128, Tryz.ntmps128
 go_wp2
 clear hc0 hc1 hc2
 generalize hw0 : w.alloc (.cells #[vo, vp, vc] 31) = w0 at *
 clear hw0
 go_loopw [7, 8, 9] (fun ov bv iv wr => ∃ (i : Nat) (placed : Bool) (out : List (List (List Int))) (v7 : Value), v7 = ov ∧ bv = .bool placed ∧ iv = .int .i64 i ∧ i ≤ L.length ∧ out.length ≤ i + 1 ∧ Ext w0 wr ∧ Sh3 S w0.heap.size wr v7 out ∧ Hid (Ins P L u i out placed)) (fun _ _ iv _ => L.length - (intOf iv).toNat)
 case atStart => exact ⟨0, false, [], _, rfl, rfl, rfl, by omega, by simp, World.grownBy_alloc _ _ _, by rw [← HB.out.2.1]; exact Sh3.lit0 _ _ _ (Nat.le_refl _), Lib.hid (ins_start P L u)⟩
 case round =>
  obtain ⟨i, placed, out, v7, rfl, rfl, rfl, hi, hol, hg, hO, hI⟩ := hrel
  by_cases hlt : i < L.length
  ·have hlt' : (i : Int) < L.length := by omega
   obtain ⟨bl, ol, a2, cap2, rfl, _, hbl, hcl, hx⟩ := Rows3.at hl i hlt
   have hcr := hg.cell (hg0.cell hcl (by simp)) (by simp)
   have hxb := HB.out.2.2.2.1 _ (gt_mem hlt)
   obtain ⟨x, hxd⟩ : ∃ x, x = gt L i := ⟨_, rfl⟩
   rw [← hxd] at hcl hcr hx hxb
   have hxw := Rows2.ext (Rows2.ext hx hg0) hg
   have huw := Rows2.ext hu0 hg
   have hB0 := HB.out.2.1
   have hxS : Rows2 (fun k => S k ∧ k < w0.heap.size) wr (.slice a2 x.length cap2) x := Rows2.mono hx (fun k hk hlt => ⟨⟨hk, by omega⟩, Nat.lt_of_lt_of_le hlt (Nat.le_trans hg0.size hg.size), (hg.block k (Nat.lt_of_lt_of_le hlt hg0.size) (by simp)).trans (hg0.block k hlt (by simp))⟩)
   have huS : Rows2 (fun k => S k ∧ k < w0.heap.size) wr (.slice au u.length capu) u := Rows2.mono hu (fun k hk hlt => ⟨⟨hk, by omega⟩, Nat.lt_of_lt_of_le hlt (Nat.le_trans hg0.size hg.size), (hg.block k (Nat.lt_of_lt_of_le hlt hg0.size) (by simp)).trans (hg0.block k hlt (by simp))⟩)
   have HX := Lib.hid (And.intro hxb (And.intro hxd (And.intro hxS huS))); clear hxb hxd hxS huS hcl hx
   go_wp2_with fail
   refine Calls.mono (l01Same2_ok _ _ x u wr S S hxw huw) ?_
   rintro eS wS ⟨vS, rfl, hgS, rfl⟩
   have hgs := grown_trans hg hgS
   have hOS := hO.ext hgS
   have hcS := hgS.cell hcr (by simp)
   clear hO hcr
   cases heq : eqB x u with
   | true =>
    have he := eqB_true.1 heq
    have hin : u ∈ L := by rw [← he, HX.out.2.1]; exact gt_mem hlt
    have hRL : Rows3 (fun k => S k ∨ w.heap.size ≤ k) wS (.slice (some ⟨bl, ol, none⟩) L.length capl) L := Rows3.sub (Rows3.ext (Rows3.ext hl hg0) hgs) (fun k hk _ => .inl hk)
    have HIN := Lib.hid (And.intro hin hRL); clear he hin hRL heq hcS
    go_wp2
    go_ret
    exact ⟨_, rfl, grown_trans hg0 hgs, L, hlp, fun v => ⟨.inl, fun h => h.elim id (fun e => e ▸ HIN.out.1)⟩, Nat.le_succ _, HIN.out.2⟩
   | false =>
    have hne : gt L i ≠ u := fun e => by
     rw [← HX.out.2.1] at e
     rw [eqB_true.2 e] at heq; cases heq
    have HNE := Lib.hid hne; clear hne heq
    have hxS2 : Rows2 (fun k => S k ∧ k < w0.heap.size) wS (.slice a2 x.length cap2) x := Rows2.ext HX.out.2.2.1 hgS
    have huS2 : Rows2 (fun k => S k ∧ k < w0.heap.size) wS (.slice au u.length capu) u := Rows2.ext HX.out.2.2.2 hgS
    have HS := Lib.hid (And.intro hxS2 huS2); clear hxS2 huS2 hxw huw
    have e1 : ∀ w', Ext w0 w' → w'.cell? ⟨w.heap.size, 0, none⟩ = some vo6 := fun w' h => (HB.out.1 w' h).1
    have e2 : ∀ w', Ext w0 w' → w'.cell? ⟨w.heap.size, 1, none⟩ = some vp6 := fun w' h => (HB.out.1 w' h).2.1
    have e3 : ∀ w', Ext w0 w' → w'.cell? ⟨w.heap.size, 2, none⟩ = some vc6 := fun w' h => (HB.out.1 w' h).2.2
    cases placed with
    | true =>
     clear e1 e2 e3
     go_wp2
     refine wp_region_held_drew (S := fun w' => Ext w0 w') (by kernel_rfl) (grown_trans hgs (grown_drew _ _)) (fun hHeld => ?_)
     refine wpAnyH_take (i := 0) (v := ?v0) rfl (by kernel_rfl) (by kernel_rfl) (by kernel_rfl) (fun _ _ _ h => h) (Or.inl ⟨by rfl, ?hy0⟩) (by assumption) ?rest0
     case hy0 => (intro w hSw; (try dsimp only at hSw); go_simp; try with_reducible rfl)
     try simp only [Act.put, List.getElem_toArray, List.getElem_cons_succ, List.getElem_cons_zero, List.setIfInBounds_toArray, List.set_cons_zero, List.set_cons_succ]
     refine wpAnyH_take (i := 1) (v := ?v1) rfl (by kernel_rfl) (by kernel_rfl) (by kernel_rfl) (fun _ _ _ h => h) (Or.inl ⟨by rfl, ?hy1⟩) (by assumption) ?rest1
     case hy1 => (intro w hSw; (try dsimp only at hSw); go_simp; try with_reducible rfl)
     try simp only [Act.put, List.getElem_toArray, List.getElem_cons_succ, List.getElem_cons_zero, List.setIfInBounds_toArray, List.set_cons_zero, List.set_cons_succ]
     refine wpAnyH_take (i := 2) (v := ?v2) rfl (by kernel_rfl) (by kernel_rfl) (by kernel_rfl) (fun _ _ _ h => h) (Or.inl ⟨by rfl, ?hy2⟩) (by assumption) ?rest2
     case hy2 => (intro w hSw; (try dsimp only at hSw); go_simp; try with_reducible rfl)
     try simp only [Act.put, List.getElem_toArray, List.getElem_cons_succ, List.getElem_cons_zero, List.setIfInBounds_toArray, List.set_cons_zero, List.set_cons_succ]
     refine wpAnyH_take (i := 3) (v := undef) rfl (by kernel_rfl) (by kernel_rfl) (by kernel_rfl) (fun _ _ _ h => h) (Or.inr ⟨by rfl, rfl⟩) (by assumption) ?_
     try simp only [Act.put, List.getElem_toArray, List.getElem_cons_succ, List.getElem_cons_zero, List.setIfInBounds_toArray, List.set_cons_zero, List.set_cons_succ]
     refine wpAnyH_take (i := 4) (v := undef) rfl (by kernel_rfl) (by kernel_rfl) (by kernel_rfl) (fun _ _ _ h => h) (Or.inr ⟨by rfl, rfl⟩) (by assumption) ?_
     try simp only [Act.put, List.getElem_toArray, List.getElem_cons_succ, List.getElem_cons_zero, List.setIfInBounds_toArray, List.set_cons_zero, List.set_cons_succ]
     refine wpAnyH_take (i := 5) (v := undef) rfl (by kernel_rfl) (by kernel_rfl) (by kernel_rfl) (fun _ _ _ h => h) (Or.inr ⟨by rfl, rfl⟩) (by assumption) ?_
     try simp only [Act.put, List.getElem_toArray, List.getElem_cons_succ, List.getElem_cons_zero, List.setIfInBounds_toArray, List.set_cons_zero, List.set_cons_succ]
     refine wpAnyH_take (i := 6) (v := undef) rfl (by kernel_rfl) (by kernel_rfl) (by kernel_rfl) (fun _ _ _ h => h) (Or.inr ⟨by rfl, rfl⟩) (by assumption) ?_
     try simp only [Act.put, List.getElem_toArray, List.getElem_cons_succ, List.getElem_cons_zero, List.setIfInBounds_toArray, List.set_cons_zero, List.set_cons_succ]
     refine wpAnyH_take (i := 7) (v := undef) rfl (by kernel_rfl) (by kernel_rfl) (by kernel_rfl) (fun _ _ _ h => h) (Or.inr ⟨by rfl, rfl⟩) (by assumption) ?_
     try simp only [Act.put, List.getElem_toArray, List.getElem_cons_succ, List.getElem_cons_zero, List.setIfInBounds_toArray, List.set_cons_zero, List.set_cons_succ]
     refine wpAnyH_take (i := 8) (v := undef) rfl (by kernel_rfl) (by kernel_rfl) (by kernel_rfl) (fun _ _ _ h => h) (Or.inr ⟨by rfl, rfl⟩) (by assumption) ?_
     try simp only [Act.put, List.getElem_toArray, List.getElem_cons_succ, List.getElem_cons_zero, List.setIfInBounds_toArray, List.set_cons_zero, List.set_cons_succ]
     refine wpAnyH_take (i := 9) (v := undef) rfl (by kernel_rfl) (by kernel_rfl) (by kernel_rfl) (fun _ _ _ h => h) (Or.inr ⟨by rfl, rfl⟩) (by assumption) ?_
     try simp only [Act.put, List.getElem_toArray, List.getElem_cons_succ, List.getElem_cons_zero, List.setIfInBounds_toArray, List.set_cons_zero, List.set_cons_succ]
     refine wpAnyH_take (i := 10) (v := ?v10) rfl (by kernel_rfl) (by kernel_rfl) (by kernel_rfl) (fun _ _ _ h => h) (Or.inl ⟨by rfl, ?hy10⟩) (by assumption) ?rest10
     case hy10 => (intro w hSw; (try dsimp only at hSw); go_simp; try with_reducible rfl)
     try simp only [Act.put, List.getElem_toArray, List.getElem_cons_succ, List.getElem_cons_zero, List.setIfInBounds_toArray, List.set_cons_zero, List.set_cons_succ]
     refine wpAnyH_done (by kernel_rfl) ?_ _
     have hI2 := Lib.hid (ins_yes hI.out hlt HNE.out)
     rw [← HX.out.2.1] at hI2
     have hOd := hOS.ext (grown_drew wS none)
     have hcD : wS.drew.cell? ⟨bl, ol + i, none⟩ = some (.slice a2 x.length cap2) := hcS
     have hxD := Rows2.ext HS.out.1 (grown_drew wS none)
     have hgd := grown_trans hgs (grown_drew wS none)
     generalize wS.drew = wD at *
     clear hI hOS hcS
     go_wp2_with (first | (at_builtin; refine wp_app_r3 rfl _ _ rfl S w0.heap.size _ _ out x rfl wD hOd hxD rfl rfl (by omega) hgd.size ?_; intro v8 w8 hO8 hg8; have hg08 := grown_own hgd hg8 (fun b hb hlt => by have := (hOd.lt b hb).1; omega)) | fail)
     clear hcD
     go_roundw
     case rel => exact ⟨i + 1, true, out ++ [x], _, rfl, rfl, by go_num, by omega, by simp; omega, hg08, hO8, hI2⟩
     case measure => simp [intOf]; omega
    | false =>
     have e4 : ∀ w', Ext wS w' → w'.cell? ⟨bl, ol + i, none⟩ = some (.slice a2 x.length cap2) := fun w' h => h.cell hcS (by simp)
     have f1 : ∀ w', Ext wS w' → w'.cell? ⟨w.heap.size, 0, none⟩ = some vo6 := fun w' h => e1 w' (grown_trans hgs h)
     have f2 : ∀ w', Ext wS w' → w'.cell? ⟨w.heap.size, 1, none⟩ = some vp6 := fun w' h => e2 w' (grown_trans hgs h)
     have f3 : ∀ w', Ext wS w' → w'.cell? ⟨w.heap.size, 2, none⟩ = some vc6 := fun w' h => e3 w' (grown_trans hgs h)
     clear e1 e2 e3
     go_wp2
     go_region_held3 (fun w' => Ext wS w') (first | exact grown_drew _ _ | assumption)
      (first
       | (go_at_call 193; refine Calls.mono (Calls.rel (w0 := wS) (by assumption) (l19Before_ok P hP _ _ _ _ u x Any Any Any ⟨_, _, _, rfl, Pres3.ext h36 (grown_trans hgs (by assumption))⟩ (Rows2.sub (Rows2.ext HS.out.2 (by assumption)) (fun _ _ _ => trivial)) (Rows2.sub (Rows2.ext HS.out.1 (by assumption)) (fun _ _ _ => trivial)) (HB.out.2.2.1 u HB.out.2.2.2.2).1 (HB.out.2.2.1 x HX.out.1).1 (HB.out.2.2.1 u HB.out.2.2.2.2).2 (HB.out.2.2.1 x HX.out.1).2)) ?_; rintro eA wA ⟨vA, rfl, hgA, hsA, rfl⟩))
     have hgA0 := grown_trans hgs hgA
     have hOA := hOS.ext hgA
     have hcA := e4 wA hgA
     have hxA := Rows2.ext HS.out.1 hgA
     have huA := Rows2.ext HS.out.2 hgA
     clear e4 f1 f2 f3 hOS hcS
     cases hlb : ltB P u x with
     | true =>
      have hol2 : out.length ≤ i := by rw [(hI.out.no rfl).1, List.length_take]; omega
      have hI2 := ins_put hI.out hlt HNE.out (by rw [← HX.out.2.1]; exact ltB_iff.1 hlb)
      rw [← HX.out.2.1] at hI2
      have HI2 := Lib.hid hI2; clear hI2 hI hlb
      have hB0 := HB.out.2.1
      go_wp2_with (first
       | (revert hO8; intro hO8; at_builtin; refine wp_app_r3 rfl _ _ rfl S w0.heap.size _ _ (out ++ [u]) x rfl w8 hO8 hx8 rfl rfl (by simp; omega) hg08.size ?_; intro v9 w9 hO9 hg9; have hg09 := grown_own hg08 hg9 (fun b hb hlt => by have := (hO8.lt b hb).1; omega))
       | (at_builtin; refine wp_app_r3 rfl _ _ rfl S w0.heap.size _ _ out u rfl wA hOA huA rfl rfl (by omega) hgA0.size ?_; intro v8 w8 hO8 hg8; have hg08 := grown_own hgA0 hg8 (fun b hb hlt => by have := (hOA.lt b hb).1; omega); have hc8 := hg8.cell hcA (fun e => by have h1 : w0.heap.size ≤ bl := (hOA.lt _ e.symm).1; omega); have hx8 : Rows2 (fun k => S k ∧ k < w0.heap.size) w8 (.slice a2 x.length cap2) x := Rows2.mono hxA (frame_of hg8 (fun k hk _ => ⟨hk, fun e => by have := (hOA.lt k e).1; omega⟩)))
       | fail)
      clear hcA hc8
      go_roundw
      case rel => exact ⟨i + 1, true, out ++ [u] ++ [x], _, rfl, rfl, by go_num, by omega, by simp only [List.length_append, List.length_singleton]; omega, hg09, hO9, Lib.hid HI2.out⟩
      case measure => simp [intOf]; omega
     | false =>
      have hI2 := ins_no hI.out hlt HNE.out (by rw [← HX.out.2.1]; exact fun h => by rw [ltB_iff.2 h] at hlb; cases hlb)
      rw [← HX.out.2.1] at hI2
      have HI2 := Lib.hid hI2; clear hI2 hI hlb
      go_wp2_with (first | (at_builtin; refine wp_app_r3 rfl _ _ rfl S w0.heap.size _ _ out x rfl wA hOA hxA rfl rfl (by omega) hgA0.size ?_; intro v8 w8 hO8 hg8; have hg08 := grown_own hgA0 hg8 (fun b hb hlt => by have := (hOA.lt b hb).1; omega)) | fail)
      clear hcA
      go_roundw
      case rel => exact ⟨i + 1, false, out ++ [x], _, rfl, rfl, by go_num, by omega, by simp; omega, hg08, hO8, HI2⟩
      case measure => simp [intOf]; omega
  ·have hie : i = L.length := by omega
   have hO2 := hO
   obtain ⟨va, vcp, hv7⟩ := hO.shape
   subst hv7
   have hI2 := hI.out
   rw [hie] at hI2
   have hB0 := HB.out.2.1
   have hsub : ∀ {r : Value} {w' : World} {Z : List (List (List Int))}, Rows3 (fun k => S k ∨ w0.heap.size ≤ k) w' r Z → Rows3 (fun k => S k ∨ w.heap.size ≤ k) w' r Z := fun h => Rows3.sub h (fun k hk _ => hk.imp id (fun h2 => by omega))
   have hnl : ¬ (i : Int) < L.length := by omega
   cases placed with
   | true =>
    have hR := hsub (hO.rows (by omega))
    have HR := Lib.hid (And.intro hI2 hR); clear hI2 hR hI hO hO2 hie
    go_wp2
    go_ret
    exact ⟨_, rfl, grown_trans hg0 hg, out, (ins_end G hlp HB.out.2.2.2.1 HB.out.2.2.2.2 HR.out.1 out rfl).1, (ins_end G hlp HB.out.2.2.2.1 HB.out.2.2.2.2 HR.out.1 out rfl).2, by omega, HR.out.2⟩
   | false =>
    have huS : Rows2 (fun k => S k ∧ k < w0.heap.size) wr (.slice au u.length capu) u := Rows2.mono hu (fun k hk hlt => ⟨⟨hk, by omega⟩, Nat.lt_of_lt_of_le hlt (Nat.le_trans hg0.size hg.size), (hg.block k (Nat.lt_of_lt_of_le hlt hg0.size) (by simp)).trans (hg0.block k hlt (by simp))⟩)
    have HR := Lib.hid hI2
    have HR2 : Hid ((out ++ [u]).length ≤ L.length + 1) := by
     have h1 := (hI2.no rfl).1
     exact Lib.hid (by rw [h1]; simp)
    clear hI2 hI hie
    go_wp2_with (first | (at_builtin; refine wp_app_r3 rfl _ _ rfl S w0.heap.size _ _ out u rfl wr hO huS rfl rfl (by omega) hg.size ?_; intro v8 w8 hO8 hg8; have hg08 := grown_own hg hg8 (fun b hb hlt => by have := (hO.lt b hb).1; omega); obtain ⟨vb, vcq, hv8⟩ := hO8.shape; subst hv8) | fail)
    have hR := hsub (hO8.rows (by simp; omega))
    rw [List.length_append, List.length_singleton] at hR
    go_ret
    exact ⟨_, rfl, grown_trans hg0 hg08, out ++ [u], (ins_end G hlp HB.out.2.2.2.1 HB.out.2.2.2.2 HR.out (out ++ [u]) rfl).1, (ins_end G hlp HB.out.2.2.2.1 HB.out.2.2.2.2 HR.out (out ++ [u]) rfl).2, HR2.out, hR⟩
end Go.Proofs.YtdklekdpdbjfiaaGreat

/- append of a row that lay there before: the list takes it out of the set of blocks that it avoids. -/
namespace Go.Proofs.YtdklekdpdbjfiaaGreat
open Go.RowKit
theorem wp_app_take {ops : Array Oper} {rest : List Oper} {o : Oper} {a : Act} {Q : Exit → Act → World → Prop} {w : World} (hgd : o.guard = none) (s x : Operand)
  (ho : o.op = Op.call { callee := Callee.builtin Builtin.append, args := #[s, x], argTypes := #[23, 23] }) (B : Nat) (A A' F : Nat → Prop) (w0 : World) (v u : Value) (xs : List (List Int)) (y : List Int) (hs : a.eval s = v)
  (hown : SlOA OwnIn 22 B A w0 v xs) (hu : OwnIn F w0 u y) (hF : ∀ k, F k → k < w0.heap.size → A k ∧ B ≤ k) (hA' : ∀ k, A' k → A k ∧ ¬ F k) (hAl : ∀ k, A k → k < w0.heap.size) (hw : w = w0.alloc (.cells #[u] 22))
  (hx : a.eval x = .slice (some ⟨w0.heap.size, 0, none⟩) 1 1) (hlen : xs.length ≤ 1000000) (hbase : B ≤ w0.heap.size)
  (h : ∀ v' w', SlOA OwnIn 22 B A' w' v' (xs ++ [y]) → w0.grownBy w' v.ownBlock → (v'.ownBlock = v.ownBlock ∨ ∀ k, v'.ownBlock = some k → w0.heap.size ≤ k) → wpList Tryz.prog ops Q rest (a.put o.dst v') w') :
  wpList Tryz.prog ops Q (o :: rest) a w := by
 subst hw
 obtain ⟨vs, G, hvl, hO, hG, hd, hE, hr, hr2⟩ := hown
 have hga : Ext w0 (w0.alloc (.cells #[u] 22)) := World.grownBy_alloc _ _ _
 refine wp_app 23 22 (.slice none 0 0) 24 und_rows Tryz.infoRow rfl (by decide) hgd s x ho B v vs hs (hO.kept hga (by cases hv : v.ownBlock <;> simp)) (some ⟨w0.heap.size, 0, none⟩) 1 1 [u] hx rfl (by simp) ?_ ?_ (by simp; omega) (by have := hga.size; omega) ?_
 ·intro j hj
  have : j = 0 := by omega
  subst this
  exact ⟨_, _, rfl, by rw [World.cell?_alloc_at _ _ _ _ rfl]; rfl⟩
 ·intro u' hu'
  simp at hu'; subst hu'; exact rdOwn.one hu
 ·intro v' w' k1 k2 _ k4
  have hg : w0.grownBy w' v.ownBlock := grown_trans (grown_of_ext _ hga) k2
  have hown2 : v'.ownBlock = v.ownBlock ∨ ∀ k, v'.ownBlock = some k → w0.heap.size ≤ k := by
   rcases k4 with h | h
   ·exact .inl h
   ·refine .inr (fun k hk => ?_)
    rw [h] at hk
    have : (w0.alloc (.cells #[u] 22)).heap.size = k := by simpa using hk
    simp at this
    omega
  have hown : ∀ k, v'.ownBlock = some k → v.ownBlock = some k ∨ w0.heap.size ≤ k := fun k hk => by
   rcases k4 with h | h
   ·exact .inl (by rw [← h]; exact hk)
   ·rw [h] at hk
    have : (w0.alloc (.cells #[u] 22)).heap.size = k := by simpa using hk
    simp at this
    exact .inr (by omega)
  refine h v' w' ⟨vs ++ [u], fun i k => if i < xs.length then G i k else F k ∧ k < w0.heap.size, by simp [hvl], k1, ?_, ?_, ?_, ?_, ?_⟩ hg hown2
  ·intro i k hi hk
   split at hk
   ·rename_i hlt
    obtain ⟨a1, a2, a3⟩ := hG i k hlt hk
    exact ⟨a1, fun e => (hown k e).elim a2 (fun h => by omega), Nat.lt_of_lt_of_le a3 hg.size⟩
   ·obtain ⟨b1, b2⟩ := hF k hk.1 hk.2
    exact ⟨b2, fun e => (hown k e).elim (fun h => hr2 k h b1) (fun h => by have := hk.2; omega), Nat.lt_of_lt_of_le hk.2 hg.size⟩
  ·intro i j k hi hj hk hk'
   simp only [List.length_append, List.length_singleton] at hi hj
   split at hk <;> split at hk'
   ·exact hd i j k (by assumption) (by assumption) hk hk'
   ·exact absurd (hF k hk'.1 hk'.2).1 (hr i k (by assumption) hk)
   ·exact absurd (hF k hk.1 hk.2).1 (hr j k (by assumption) hk')
   ·omega
  ·intro i hi
   simp only [List.length_append, List.length_singleton] at hi
   by_cases hlt : i < xs.length
   ·rw [gt_append_left _ _ _ (by omega), gt_append_left _ _ _ hlt]
    simp only [if_pos hlt]
    exact rdOwn.mono (hE i hlt) (fun k hk hkl => ⟨hk, Nat.lt_of_lt_of_le hkl hg.size, hg.block k hkl (fun e => (hG i k hlt hk).2.1 e.symm)⟩)
   ·have hi2 : i = xs.length := by omega
    subst hi2
    rw [gt_concat, ← hvl, gt_concat]
    simp only [hvl, Nat.lt_irrefl, if_false]
    exact rdOwn.mono hu (fun k hk hkl => ⟨⟨hk, hkl⟩, Nat.lt_of_lt_of_le hkl hg.size, hg.block k hkl (fun e => hr2 k e.symm (hF k hk hkl).1)⟩)
  ·intro i k hi hk ha
   obtain ⟨c1, c2⟩ := hA' k ha
   split at hk
   ·rename_i hlt; exact hr i k hlt hk c1
   ·exact c2 hk.1
  ·intro k hk ha
   obtain ⟨c1, _⟩ := hA' k ha
   rcases hown k hk with h | h
   ·exact hr2 k h c1
   ·have := hAl k c1; omega
end Go.Proofs.YtdklekdpdbjfiaaGreat

/- [][]int64{row} as a list of the call's own. -/
namespace Go.Proofs.YtdklekdpdbjfiaaGreat
open Go.RowKit
theorem rowsOne {B : Nat} {w2 : World} {u : Value} {y : List Int} (hu : OwnIn (From B) w2 u y) (hB : B ≤ w2.heap.size) : RowsO B (w2.alloc (.cells #[u] 22)) (.slice (some ⟨w2.heap.size, 0, none⟩) 1 1) [y] := by
 have hga : Ext w2 (w2.alloc (.cells #[u] 22)) := World.grownBy_alloc _ _ _
 refine ⟨[u], fun _ k => B ≤ k ∧ k < w2.heap.size, rfl, World.ownsRow_lit w2 #[u] 1 hB (by decide) rfl, fun i k hi hk => ?_, fun i j k hi hj _ _ => ?_, fun i hi => ?_⟩
 ·exact ⟨hk.1, fun e => by have := own_blk e; omega, Nat.lt_of_lt_of_le hk.2 hga.size⟩
 ·simp at hi hj; omega
 ·have : i = 0 := by simpa using hi
  subst this
  exact rdOwn.mono hu (fun k hk hkl => ⟨⟨hk, hkl⟩, Nat.lt_of_lt_of_le hkl hga.size, hga.block k hkl (by simp)⟩)
end Go.Proofs.YtdklekdpdbjfiaaGreat

/- impl.elementsOf. -/
namespace Go.Proofs.YtdklekdpdbjfiaaGreat
open Go.RowKit
theorem SlOA.nil {α : Type} [Inhabited α] (El : (Nat → Prop) → World → Value → α → Prop) (E B : Nat) (A : Nat → Prop) (w : World) : SlOA El E B A w (.slice none 0 0) ([] : List α) :=
 ⟨[], fun _ _ => False, rfl, World.ownsRow_nil _ _ _ _, by simp, by simp, by simp, by simp, by simp [Value.ownBlock]⟩
end Go.Proofs.YtdklekdpdbjfiaaGreat

/- Small things of the subgroup statements. -/
namespace Go.Proofs.YtdklekdpdbjfiaaGreat
open Go.RowKit
theorem rows3One {S : Nat → Prop} {w : World} {u : Value} {U : List (List Int)} (h : Rows2 S w u U) : Rows3 Any (w.alloc (.cells #[u] 23)) (.slice (some ⟨w.heap.size, 0, none⟩) 1 1) [U] := by
 refine ⟨_, 1, rfl, ⟨by simp, by simp, fun h => by cases h⟩, fun i hi => ?_⟩
 have : i = 0 := by simpa using hi
 subst this
 refine ⟨w.heap.size, 0, u, rfl, trivial, by simp, by rw [World.cell?_alloc_at _ _ _ _ rfl]; rfl, ?_⟩
 exact Rows2.sub (Rows2.ext h (World.grownBy_alloc _ _ _)) (fun _ _ _ => trivial)
theorem rows3Two {S S' : Nat → Prop} {w : World} {u v : Value} {U V : List (List Int)} (h : Rows2 S w u U) (k : Rows2 S' w v V) : Rows3 Any (w.alloc (.cells #[u, v] 23)) (.slice (some ⟨w.heap.size, 0, none⟩) 2 2) [U, V] := by
 refine ⟨_, 2, rfl, ⟨by simp, by simp, fun h => by cases h⟩, fun i hi => ?_⟩
 rcases (show i = 0 ∨ i = 1 by simp at hi; omega) with rfl | rfl
 ·refine ⟨w.heap.size, 0, u, rfl, trivial, by simp, by rw [World.cell?_alloc_at _ _ _ _ rfl]; rfl, ?_⟩
  exact Rows2.sub (Rows2.ext h (World.grownBy_alloc _ _ _)) (fun _ _ _ => trivial)
 ·refine ⟨w.heap.size, 0, v, rfl, trivial, by simp, by rw [World.cell?_alloc_at _ _ _ _ rfl]; rfl, ?_⟩
  exact Rows2.sub (Rows2.ext k (World.grownBy_alloc _ _ _)) (fun _ _ _ => trivial)
theorem elemsIn_len {P : Pr} (hP : Valid P) (H : List Int → Prop) : (elemsIn P H).length ≤ 729 := by
 have h1 := elemsTo_len P H (ordP P).toNat
 rw [elemsTo_all] at h1
 have h2 : ordP P ≤ 729 := hP.le729
 omega
end Go.Proofs.YtdklekdpdbjfiaaGreat

/- spec.l19Bits: the mask of a subgroup's sequence. -/
namespace Go.Proofs.YtdklekdpdbjfiaaGreat
open Go.RowKit
def nums (P : Pr) (E : List (List Int)) : List Nat := E.map (fun x => (num P x).toNat)
theorem nums_take (P : Pr) (E : List (List Int)) (k : Nat) (h : k < E.length) : nums P (E.take (k + 1)) = nums P (E.take k) ++ [(num P (gt E k)).toNat] := by
 unfold nums; rw [take_succ_gt E k h, List.map_append]; rfl
section
variable {P : Pr} (G : Grp P)
include G
theorem Grp.nums_new {H : List Int → Prop} (S : Sub P H) {k : Nat} (hk : k < (elemsIn P H).length) : ¬ (num P (gt (elemsIn P H) k)).toNat ∈ nums P ((elemsIn P H).take k) := by
 intro h
 unfold nums at h
 obtain ⟨x, hx, he⟩ := List.mem_map.1 h
 have hmem := elemsIn_mem G.v S.vec
 obtain ⟨j, hj, rfl⟩ := mem_gt hx
 have hjk : j < k := by rw [List.length_take] at hj; omega
 have hgj : gt ((elemsIn P H).take k) j = gt (elemsIn P H) j := by
  rw [gt_eq _ _ hj, gt_eq _ _ (by omega), List.getElem_take]
 rw [hgj] at he
 have h1 := List.pairwise_iff_getElem.1 (elemsIn_asc G.v H) j k (by omega) hk hjk
 rw [← gt_eq _ _ (by omega), ← gt_eq _ _ hk] at h1
 have b1 := num_bd G.v (S.vec _ ((hmem _).1 (gtMem (l := elemsIn P H) (i := j) (by omega))))
 have b2 := num_bd G.v (S.vec _ ((hmem _).1 (gtMem hk)))
 omega
theorem Grp.nums_all {H : List Int → Prop} (S : Sub P H) {m : Nat} (hm : Bits m (nums P (elemsIn P H))) : m = msk P H := by
 have hmem := elemsIn_mem G.v S.vec
 refine msk_eq (fun t ht => ?_) (fun t ht => ?_)
 ·rw [hm t]
  unfold nums
  constructor
  ·intro h
   obtain ⟨x, hx, rfl⟩ := List.mem_map.1 h
   have hx2 := (hmem x).1 hx
   rw [(G.num_lt (S.vec x hx2)).2]; exact hx2
  ·intro h
   exact List.mem_map.2 ⟨_, (hmem _).2 h, G.num_el ht⟩
 ·rw [Bool.eq_false_iff]
  intro e
  have := (hm t).1 e
  unfold nums at this
  obtain ⟨x, hx, rfl⟩ := List.mem_map.1 this
  have := (G.num_lt (S.vec x ((hmem x).1 hx))).1
  omega
end
set_option maxRecDepth 100000 in
set_option maxHeartbeats 4000000 in
theorem l19Bits_ok (P : Pr) (G : Grp P) (w : World) (pv uv : Value) (H : List Int → Prop) (Sp Su : Nat → Prop) (S : Sub P H) (h32 : ordP P ≤ 32) (hpv : PresV Sp w pv P) (hu : Rows2 Su w uv (cseq P H)) :
  Calls Tryz.prog 206 #[pv, uv] w (Ret w fun _ v => v = .int .i64 ((msk P H : Nat) : Int)) := by
 have hP := G.v
 have hn6 := hP.n6
 have hpos := hP.ordP_pos
 obtain ⟨vo, vp, vc, rfl, h3⟩ := hpv
 have hp0 := PresP.box h3 31
 have hg0 : Ext w (w.alloc (.cells #[vo, vp, vc] 31)) := World.grownBy_alloc _ _ _
 have hu0 := Rows2.ext hu hg0
 obtain ⟨au, capu, rfl, _, _⟩ := Sl.shape hu
 obtain ⟨vo6, vp6, vc6, _, _, hc0, hc1, hc2, h36⟩ := hp0.at
 simp only [Nat.zero_add] at hc1 hc2
 have hbx : ∀ w', Ext (w.alloc (.cells #[vo, vp, vc] 31)) w' → w'.cell? ⟨w.heap.size, 0, none⟩ = some vo6 ∧ w'.cell? ⟨w.heap.size, 1, none⟩ = some vp6 ∧ w'.cell? ⟨w.heap.size, 2, none⟩ = some vc6 := fun w' h => ⟨h.cell hc0 (by simp), h.cell hc1 (by simp), h.cell hc2 (by simp)⟩
 have HB := Lib.hid hbx; clear hbx hp0 hu
 have hE := l12Elements_ok P G (w.alloc (.cells #[vo, vp, vc] 31)) _ _ H Any Su S ⟨_, _, _, rfl, h36⟩ hu0
 obtain ⟨E, hEe⟩ : ∃ E, E = elemsIn P H := ⟨_, rfl⟩
 have hEl : E.length ≤ 729 := by rw [hEe]; exact elemsIn_len hP H
 rw [← hEe] at hE
 have HE := Lib.hid hEe; clear hEe
 go_enter Tryz.func206, Tryz.ntmps206
 go_wp2_with fail
 clear hc0 hc1 hc2
 generalize hw0 : w.alloc (.cells #[vo, vp, vc] 31) = w0 at *
 clear hw0
 refine Calls.mono hE ?_
 rintro e1 w1 ⟨v1, rfl, hg1, hO⟩
 clear hE
 have hER := RowsD.rows (hO.toD (by omega))
 obtain ⟨ae, cape, hve, _, _⟩ := Sl.shape hER
 subst hve
 have hER1 : Rows2 Any w1 (.slice ae E.length cape) E := Rows2.sub hER (fun _ _ _ => trivial)
 clear hO hER
 go_wp2
 go_loopw [6, 7] (fun mv iv wr => ∃ (i m : Nat), mv = .int .i64 (m : Int) ∧ iv = .int .i64 i ∧ i ≤ E.length ∧ Ext w1 wr ∧ Hid (Bits m (nums P (E.take i)))) (fun _ iv _ => E.length - (intOf iv).toNat)
 case atStart => exact ⟨0, 0, rfl, rfl, by omega, Ext.refl _, Lib.hid (fun t => by simp [nums])⟩
 case round =>
  obtain ⟨i, m, rfl, rfl, hi, hg, hM⟩ := hrel
  have hg0r := grown_trans hg1 hg
  by_cases hlt : i < E.length
  ·have hlt' : (i : Int) < E.length := by omega
   obtain ⟨bb, off, a2, cap2, rfl, _, _, hc, hr⟩ := Rows2.at hER1 i hlt
   have hcr := hg.cell hc (by simp)
   have hXV : Vec P.orders (gt E i) := S.vec _ ((elemsIn_mem hP S.vec _).1 (by rw [← HE.out]; exact gtMem hlt))
   have hnew : ¬ (num P (gt E i)).toNat ∈ nums P (E.take i) := by rw [HE.out]; exact G.nums_new S (by rw [← HE.out]; exact hlt)
   have hstep := nums_take P E i hlt
   have hm32 : m < 4294967296 := by
    have h1 : m < 2 ^ (ordP P).toNat := Nat.lt_pow_two_of_testBit _ (fun t ht => by
     rw [Bool.eq_false_iff]
     intro e
     have := (hM.out t).1 e
     unfold nums at this
     obtain ⟨x, hx, rfl⟩ := List.mem_map.1 this
     have := (G.num_lt (S.vec x ((elemsIn_mem hP S.vec x).1 (by rw [← HE.out]; exact List.mem_of_mem_take hx)))).1
     omega)
    have h2 : (2 : Nat) ^ (ordP P).toNat ≤ 2 ^ 32 := Nat.pow_le_pow_right (by decide) (by omega)
    omega
   have hb := num_bd hP hXV
   obtain ⟨x, hx⟩ : ∃ x, x = gt E i := ⟨_, rfl⟩
   rw [← hx] at hc hcr hr hXV hnew hstep hb
   obtain ⟨y, hy⟩ : ∃ y, y = (num P x).toNat := ⟨_, rfl⟩
   rw [← hy] at hnew hstep
   have hyn : num P x = (y : Int) := by omega
   have hy32 : y < 32 := by omega
   have hM2 := hM.out.app hnew
   rw [← hstep] at hM2
   have hshl := shl_oneI y hy32
   have hp32 : (2 : Nat) ^ y < 2 ^ 32 := Nat.pow_lt_pow_right (by decide) hy32
   obtain ⟨p, hp⟩ : ∃ p, p = 2 ^ y := ⟨_, rfl⟩
   rw [← hp] at hshl hM2 hp32
   have hadd : IntKind.i64.wrap ((m : Int) + (p : Int)) = ((m + p : Nat) : Int) := by
    rw [IntWalk.i64_in _ ⟨by omega, by omega⟩]; omega
   have hshl2 : IntKind.i64.wrap (2 ^ min (IntKind.u64.wrap (y : Int)).toNat 64) = (p : Int) := by
    rw [IntWalk.u64_in _ ⟨by omega, by omega⟩, Int.toNat_natCast, Nat.min_eq_left (by omega)]; exact hshl
   have HX := Lib.hid (And.intro hXV (And.intro hyn hM2)); clear hXV hyn hM2 hnew hstep hb hx hy hp hM hm32 hp32
   have e1 : ∀ w', Ext wr w' → w'.cell? ⟨w.heap.size, 0, none⟩ = some vo6 := fun w' h => (HB.out w' (grown_trans hg0r h)).1
   have e2 : ∀ w', Ext wr w' → w'.cell? ⟨w.heap.size, 1, none⟩ = some vp6 := fun w' h => (HB.out w' (grown_trans hg0r h)).2.1
   have e3 : ∀ w', Ext wr w' → w'.cell? ⟨w.heap.size, 2, none⟩ = some vc6 := fun w' h => (HB.out w' (grown_trans hg0r h)).2.2
   have e4 : ∀ w', Ext wr w' → w'.cell? ⟨bb, off + i, none⟩ = some (.slice a2 x.length cap2) := fun w' h => h.cell hcr (by simp)
   clear hcr hc
   go_wp2
   go_region_held3 (fun w' => Ext wr w') (first | exact grown_drew _ _ | assumption)
    (first
     | (go_at_call 207; refine Calls.mono (Calls.rel (w0 := wr) (by assumption) (l10Number_ok P hP _ _ _ x Any Any ⟨_, _, _, rfl, Pres3.ext h36 (grown_trans hg0r (by assumption))⟩ (Ints.sub (Ints.ext hr (grown_trans hg (by assumption))) (fun _ _ _ => trivial)) HX.out.1)) ?_; rintro eA wA ⟨vA, rfl, hgA, hsA, hvA⟩; rw [HX.out.2.1] at hvA; subst hvA))
   clear e1 e2 e3 e4
   have hgA1 := grown_trans hg hgA
   go_wp2
   clear hshl hshl2 hadd
   go_roundw
   case rel => exact ⟨i + 1, m + p, rfl, by go_num, by omega, hgA1, Lib.hid HX.out.2.2⟩
   case measure => simp [intOf]; omega
  ·have hie : i = E.length := by omega
   have hend := hM.out
   rw [hie, List.take_length, HE.out] at hend
   have HN := Lib.hid (G.nums_all S hend)
   have hnl : ¬ (i : Int) < E.length := by omega
   clear hend hie hlt hM
   go_wp2
   go_ret
   exact ⟨_, rfl, grown_trans hg0 hg0r, congrArg (fun z : Nat => Value.int .i64 (z : Int)) HN.out⟩
end Go.Proofs.YtdklekdpdbjfiaaGreat

/- spec.l19Full: the lattice by the reference. -/
namespace Go.Proofs.YtdklekdpdbjfiaaGreat
open Go.RowKit
structure GensOk (P : Pr) (M : List Nat) (GS : List (List Nat)) : Prop where
 len : GS.length = M.length
 at' : ∀ j, j < M.length → gt M j = msk P (genN P (gt GS j)) ∧ (∀ g ∈ gt GS j, g < (ordP P).toNat) ∧ (gt GS j).length ≤ j
theorem GensOk.app {P : Pr} {M : List Nat} {GS : List (List Nat)} (h : GensOk P M GS) {k t : Nat} (hk : k < M.length) (ht : t < (ordP P).toNat) : GensOk P (M ++ [msk P (genN P (gt GS k ++ [t]))]) (GS ++ [gt GS k ++ [t]]) := by
 refine ⟨by simp [h.len], fun j hj => ?_⟩
 simp only [List.length_append, List.length_singleton] at hj
 by_cases hjl : j < M.length
 ·rw [gt_append_left _ _ _ hjl, gt_append_left _ _ _ (by rw [h.len]; exact hjl)]
  exact h.at' j hjl
 ·have : j = M.length := by omega
  subst this
  rw [gt_concat, ← h.len, gt_concat]
  obtain ⟨h1, h2, h3⟩ := h.at' k hk
  have hln := h.len
  refine ⟨rfl, fun g hg => ?_, by simp; omega⟩
  rcases List.mem_append.1 hg with h4 | h4
  ·exact h2 g h4
  ·rw [List.mem_singleton.1 h4]; exact ht
theorem gensOk_start {P : Pr} (G : Grp P) : GensOk P [1] [[]] := by
 refine ⟨rfl, fun j hj => ?_⟩
 have : j = 0 := by simp at hj; omega
 subst this
 refine ⟨?_, fun g hg => (by cases hg), by simp [gt]⟩
 show (1 : Nat) = msk P (genN P [])
 rw [G.genN_nil, G.msk_one]
theorem natI_eqB {a b : Nat} : ((a : Int) == (b : Int)) = decide (a = b) := by
 by_cases h : a = b
 ·subst h; simp
 ·have : ¬ (a : Int) = b := by omega
  simp [h, this]
theorem SlO.low {α : Type} [Inhabited α] {El : (Nat → Prop) → World → Value → α → Prop} {E B : Nat} {A : Nat → Prop} {w : World} {v : Value} {xs : List α} (h : SlO El E B w v xs) (hA : ∀ k, A k → k < B) : SlOA El E B A w v xs := by
 obtain ⟨vs, G, h1, h2, h3, h4, h5⟩ := h
 exact ⟨vs, G, h1, h2, h3, h4, h5, fun i k hi hk ha => by have := (h3 i k hi hk).1; have := hA k ha; omega, fun k hk ha => by have := (h2.lt k hk).1; have := hA k ha; omega⟩
theorem wp_app_intA {ops : Array Oper} {rest : List Oper} {o : Oper} {a : Act} {Q : Exit → Act → World → Prop} {w : World} (hgd : o.guard = none) (s x : Operand)
  (ho : o.op = Op.call { callee := Callee.builtin Builtin.append, args := #[s, x], argTypes := #[22, 22] }) (B : Nat) (v : Value) (l : List Int) (y : Int) (hs : a.eval s = v) (w2 : World) (hown : Own B w2 v l)
  (hw : w = w2.alloc (.cells #[.int .i64 y] 2)) (hx : a.eval x = .slice (some ⟨w2.heap.size, 0, none⟩) 1 1) (hlen : l.length ≤ 1000000) (hbase : B ≤ w2.heap.size)
  (h : ∀ v' w', Own B w' v' (l ++ [y]) → w2.grownBy w' v.ownBlock → (∀ k, v'.ownBlock = some k → v.ownBlock = some k ∨ w2.heap.size ≤ k) → wpList Tryz.prog ops Q rest (a.put o.dst v') w') :
  wpList Tryz.prog ops Q (o :: rest) a w := by
 subst hw
 have hga : Ext w2 (w2.alloc (.cells #[.int .i64 y] 2)) := World.grownBy_alloc _ _ _
 refine wp_app 22 2 (.int .i64 0) 8 und_ints Tryz.infoInt rfl (by decide) hgd s x ho B v (l.map (Value.int .i64)) hs (hown.ext0 hga).v (some ⟨w2.heap.size, 0, none⟩) 1 1 [.int .i64 y] hx rfl (by simp) ?_ ?_ (by simp; omega) (by have := hga.size; omega) ?_
 ·intro j hj
  have : j = 0 := by omega
  subst this
  exact ⟨_, _, rfl, by rw [World.cell?_alloc_at _ _ _ _ rfl]; rfl⟩
 ·intro u' hu'
  simp at hu'; subst hu'; rfl
 ·intro v' w' h1 h2 _ hat
  refine h v' w' (Own.of (by rw [List.map_append]; exact h1)) (grown_trans (grown_of_ext _ hga) h2) (fun k hk => ?_)
  rcases hat with e | e
  ·exact .inl (by rw [← e]; exact hk)
  ·rw [e] at hk
   have : (w2.alloc (.cells #[.int .i64 y] 2)).heap.size = k := by simpa using hk
   exact .inr (by simp at this; omega)
set_option linter.unusedSimpArgs false in
set_option maxRecDepth 100000 in
set_option maxHeartbeats 16000000 in
theorem l19Full_ok (P : Pr) (G : Grp P) (w : World) (pv : Value) (Sp : Nat → Prop) (h32 : ordP P ≤ 32) (hpv : PresV Sp w pv P) :
  Calls Tryz.prog 141 #[pv] w (Ret w fun w' v => ∃ sv mv, v = .agg #[sv, mv] ∧ ∃ L, LatL P L ∧ Rows3 (From w.heap.size) w' sv L ∧ Ints (From w.heap.size) w' mv (natI (L.map (mskU P)))) := by
 have hP := G.v
 have hn6 := hP.n6
 have hpos := hP.ordP_pos
 obtain ⟨vo, vp, vc, rfl, h3⟩ := hpv
 have hp0 := PresP.box h3 31
 have hg0 : Ext w (w.alloc (.cells #[vo, vp, vc] 31)) := World.grownBy_alloc _ _ _
 obtain ⟨vo6, vp6, vc6, _, _, hc0, hc1, hc2, h36⟩ := hp0.at
 simp only [Nat.zero_add] at hc1 hc2
 have hs0 : (w.alloc (.cells #[vo, vp, vc] 31)).heap.size = w.heap.size + 1 := by simp
 have hg0b : Ext (w.alloc (.cells #[vo, vp, vc] 31)) ((w.alloc (.cells #[vo, vp, vc] 31)).alloc (.cells #[.slice none 0 0, .slice none 0 0] 130)) := World.grownBy_alloc _ _ _
 have hs1 : ((w.alloc (.cells #[vo, vp, vc] 31)).alloc (.cells #[.slice none 0 0, .slice none 0 0] 130)).heap.size = w.heap.size + 1 + 1 := by simp
 have hrc : ∀ k, k < 2 → ((w.alloc (.cells #[vo, vp, vc] 31)).alloc (.cells #[.slice none 0 0, .slice none 0 0] 130)).cell? ⟨w.heap.size + 1, k, none⟩ = some (.slice none 0 0) ∧ ((w.alloc (.cells #[vo, vp, vc] 31)).alloc (.cells #[.slice none 0 0, .slice none 0 0] 130)).frozen? ⟨w.heap.size + 1, k, none⟩ = false := fun k hk => by
  rw [← hs0]
  constructor
  ·rw [World.cell?_alloc_at _ _ _ _ rfl]
   rcases (show k = 0 ∨ k = 1 by omega) with rfl | rfl <;> rfl
  ·simp
 have hbx : ∀ w', Ext ((w.alloc (.cells #[vo, vp, vc] 31)).alloc (.cells #[.slice none 0 0, .slice none 0 0] 130)) w' → w'.cell? ⟨w.heap.size, 0, none⟩ = some vo6 ∧ w'.cell? ⟨w.heap.size, 1, none⟩ = some vp6 ∧ w'.cell? ⟨w.heap.size, 2, none⟩ = some vc6 := fun w' h => ⟨(grown_trans hg0b h).cell hc0 (by simp), (grown_trans hg0b h).cell hc1 (by simp), (grown_trans hg0b h).cell hc2 (by simp)⟩
 obtain ⟨N, hN⟩ : ∃ N, N = (ordP P).toNat := ⟨_, rfl⟩
 have hNo : ordP P = (N : Int) := by omega
 have hN32 : N ≤ 32 := by omega
 have hNpos : 1 ≤ N := by omega
 have hgw := grown_trans hg0 hg0b
 have h37 := Pres3.ext h36 hg0b
 have HB := Lib.hid (And.intro hbx (And.intro hs1 (And.intro hrc (And.intro hN hNo)))); clear hbx hs0 hs1 hp0 hN hNo hpos hrc h36 hg0b
 go_enter Tryz.func141, Tryz.ntmps141
 go_wp2_with fail
 clear hc0 hc1 hc2
 generalize hw0 : (w.alloc (.cells #[vo, vp, vc] 31)).alloc (.cells #[.slice none 0 0, .slice none 0 0] 130) = w0 at *
 clear hw0 hg0
 refine Calls.mono (l19Table_ok P G w0 _ Sp ⟨_, _, _, rfl, h3.ext hgw⟩) ?_
 rintro e1 w2 ⟨tv, rfl, hg2, hT⟩
 obtain ⟨at', capt, rfl, _, _⟩ := Sl.shape hT
 have hlen : (tabL P).length = N := by rw [tabL_len, HB.out.2.2.2.1]
 have htN : Rows2 Any w2 (.slice at' (tabL P).length capt) (tabL P) := Rows2.sub hT (fun _ _ _ => trivial)
 rw [hlen] at htN ⊢
 have HT := Lib.hid hlen; clear hT hlen
 have hgw2 := grown_trans hgw hg2
 -- the first mask and its generators
 have hOA : Own w2.heap.size (w2.alloc (.cells #[.int .i64 1] 2)) (.slice (some ⟨w2.heap.size, 0, none⟩) 1 1) (natI [1]) := World.ownsRow_lit w2 #[.int .i64 1] 1 (Nat.le_refl _) (by decide) rfl
 have hgA : Ext w2 (w2.alloc (.cells #[.int .i64 1] 2)) := World.grownBy_alloc _ _ _
 have hsA : (w2.alloc (.cells #[.int .i64 1] 2)).heap.size = w2.heap.size + 1 := by simp
 have hOB : Own (w2.heap.size + 1) ((w2.alloc (.cells #[.int .i64 1] 2)).alloc (.cells #[] 2)) (.slice (some ⟨w2.heap.size + 1, 0, none⟩) 0 0) (natI []) := by
  have : Own (w2.alloc (.cells #[.int .i64 1] 2)).heap.size ((w2.alloc (.cells #[.int .i64 1] 2)).alloc (.cells #[] 2)) (.slice (some ⟨(w2.alloc (.cells #[.int .i64 1] 2)).heap.size, 0, none⟩) 0 0) (natI []) := World.ownsRow_lit (w2.alloc (.cells #[.int .i64 1] 2)) #[] 0 (Nat.le_refl _) (by decide) rfl
  rw [hsA] at this; exact this
 have hgB : Ext (w2.alloc (.cells #[.int .i64 1] 2)) ((w2.alloc (.cells #[.int .i64 1] 2)).alloc (.cells #[] 2)) := World.grownBy_alloc _ _ _
 have hsB : ((w2.alloc (.cells #[.int .i64 1] 2)).alloc (.cells #[] 2)).heap.size = w2.heap.size + 1 + 1 := by simp
 have hOA2 := hOA.ext0 hgB
 have hgw2B := grown_trans hgA hgB
 obtain ⟨wB, hwB⟩ : ∃ wB, wB = (w2.alloc (.cells #[.int .i64 1] 2)).alloc (.cells #[] 2) := ⟨_, rfl⟩
 rw [← hwB] at hOB hsB hOA2 hgw2B
 have hlit : SlO OwnIn 22 (w2.heap.size + 1) (wB.alloc (.cells #[.slice (some ⟨w2.heap.size + 1, 0, none⟩) 0 0] 22)) (.slice (some ⟨wB.heap.size, 0, none⟩) 1 1) [natI []] := SlO.lit1 rdOwn (OwnIn.of hOB (by simp [natI]) (fun k h1 _ => h1)) (by omega)
 rw [hsB] at hlit
 have hgC : Ext wB (wB.alloc (.cells #[.slice (some ⟨w2.heap.size + 1, 0, none⟩) 0 0] 22)) := World.grownBy_alloc _ _ _
 have hOC := hOA2.ext0 hgC
 have hgw2C := grown_trans hgw2B hgC
 have hlitA : SlOA OwnIn 22 w2.heap.size (fun k => (Value.slice (some ⟨w2.heap.size, 0, none⟩) 1 1).ownBlock = some k) (wB.alloc (.cells #[.slice (some ⟨w2.heap.size + 1, 0, none⟩) 0 0] 22)) (.slice (some ⟨w2.heap.size + 1 + 1, 0, none⟩) 1 1) ([[]].map natI) := by
  have h1 := hlit.low (A := fun k => (Value.slice (some ⟨w2.heap.size, 0, none⟩) 1 1).ownBlock = some k) (fun k hk => by have := own_blk hk; omega)
  obtain ⟨vs, Gg, a1, a2, a3, a4, a5, a6, a7⟩ := h1
  exact ⟨vs, Gg, a1, OwnV.weak a2 (by omega), fun i k hi hk => by have := a3 i k hi hk; exact ⟨by omega, this.2⟩, a4, a5, a6, a7⟩
 obtain ⟨wC, hwC⟩ : ∃ wC, wC = wB.alloc (.cells #[.slice (some ⟨w2.heap.size + 1, 0, none⟩) 0 0] 22) := ⟨_, rfl⟩
 rw [← hwC] at hOC hgw2C hlitA
 have HC := Lib.hid (And.intro hOC (And.intro hgw2C (And.intro hlitA hsB))); clear hOA hOB hOA2 hlit hOC hlitA hgw2C hgC hgB hgA hgw2B hsA hsB
 go_wp2
 rw [← hwB, ← hwC]
 clear hwB hwC
 go_loopw [4, 5, 6] (fun fv gv kv wr => ∃ (M : List Nat) (GS : List (List Nat)) (k : Nat) (v4 v5 : Value), v4 = fv ∧ v5 = gv ∧ kv = .int .i64 k ∧ k ≤ M.length ∧ Ext w2 wr ∧ Own w2.heap.size wr v4 (natI M) ∧
  SlOA OwnIn 22 w2.heap.size (fun j => v4.ownBlock = some j) wr v5 (GS.map natI) ∧ Hid (Fnd P M k 0 ∧ GensOk P M GS)) (fun _ _ kv _ => 17409 - (intOf kv).toNat)
 case atStart => exact ⟨[1], [[]], 0, _, _, rfl, rfl, rfl, by simp, HC.out.2.1, HC.out.1, HC.out.2.2.1, Lib.hid ⟨by have := G.fnd_start; rw [G.msk_one] at this; exact this, gensOk_start G⟩⟩
 case round =>
  clear HC
  obtain ⟨M, GS, k, v4, v5, rfl, rfl, rfl, hk, hg, hO, hL, hF⟩ := hrel
  have hlM := G.fnd_len h32 hF.out.1
  have hOi := hO.ints (by rw [natI_len]; omega)
  obtain ⟨a4, c4, hv4, _, _⟩ := hOi.shape
  rw [natI_len] at hv4
  subst hv4
  by_cases hlt : k < M.length
  ·have hlt' : (k : Int) < M.length := by omega
   obtain ⟨m, hm⟩ : ∃ m, m = gt M k := ⟨_, rfl⟩
   obtain ⟨gk, hgk⟩ : ∃ gk, gk = gt GS k := ⟨_, rfl⟩
   have HMG := Lib.hid (And.intro hm hgk); clear hOi
   go_wp2
   go_loopw [4, 5, 7] (fun fv gv tv wr => ∃ (M : List Nat) (GS : List (List Nat)) (t : Nat) (v4 v5 : Value), v4 = fv ∧ v5 = gv ∧ tv = .int .i64 t ∧ 1 ≤ t ∧ t ≤ N ∧ k < M.length ∧ Ext w2 wr ∧ Own w2.heap.size wr v4 (natI M) ∧
    SlOA OwnIn 22 w2.heap.size (fun j => v4.ownBlock = some j) wr v5 (GS.map natI) ∧ Hid (Fnd P M k t ∧ GensOk P M GS) ∧ Hid (m = gt M k ∧ gk = gt GS k)) (fun _ _ tv _ => N - (intOf tv).toNat)
   case atStart => exact ⟨M, GS, 1, _, _, rfl, rfl, rfl, by omega, hNpos, hlt, hg, hO, hL, Lib.hid ⟨hF.out.1.skip (fun H S _ _ => by rw [G.el_zero]; exact S.one), hF.out.2⟩, HMG⟩
   case round =>
    clear hO hL hF hlM hlt hlt' hk hm hgk HMG hg
    obtain ⟨M, GS, t, v4, v5, rfl, rfl, rfl, ht1, ht, hlt, hg, hO, hL, hF, HMG⟩ := hrel
    have hg0r := grown_trans hg2 hg
    obtain ⟨hc0, hc1, hc2⟩ := HB.out.1 wr hg0r
    have hor := l10Order_ok wr _ P Any hP ⟨_, _, _, rfl, Pres3.ext h37 hg0r⟩
    rw [HB.out.2.2.2.2] at hor
    have hlM := G.fnd_len h32 hF.out.1
    have hOi := hO.ints (by rw [natI_len]; omega)
    obtain ⟨a4, c4, hv4, _, _⟩ := hOi.shape
    rw [natI_len] at hv4
    subst hv4
    clear hOi
    go_wp2_with fail
    clear hc0 hc1 hc2
    refine Calls.mono hor ?_
    rintro eo wo ⟨vo', rfl, hgo, rfl⟩
    clear hor
    have hgo2 := grown_trans hg hgo
    have hOo := hO.ext0 hgo
    have hLo := hL.ext rdOwn hgo
    clear hO hL
    by_cases hltt : t < N
    ·have hltt' : (t : Int) < N := by omega
     have hltk' : (k : Int) < M.length := by omega
     have hOi := hOo.ints (by rw [natI_len]; omega)
     obtain ⟨b4, o4, hb4, _, _, hcm⟩ := Ints.at (show Sl IntEl _ wo (.slice a4 M.length c4) (natI M) by rw [← natI_len] at hOi ⊢; exact hOi) k (by rw [natI_len]; exact hlt)
     subst hb4
     rw [natI_gt hlt, ← HMG.out.1] at hcm
     have hrem := bit_rem m t
     have htlt : t < (ordP P).toNat := by have := HB.out.2.2.2.1; omega
     cases hb : m.testBit t with
     | true =>
      rw [hb] at hrem
      have hrem : ((m : Int) / 2 ^ t).tmod 2 = 1 := hrem
      have hF2 := Lib.hid (And.intro (fnd_bit hF.out.1 htlt (by rw [← HMG.out.1]; exact hb)) hF.out.2)
      clear hF hb hOi
      go_wp2
      clear hrem hcm
      go_roundw
      case rel => exact ⟨M, GS, t + 1, _, v5, rfl, rfl, by go_num, by omega, by omega, hlt, hgo2, hOo, hLo, hF2, HMG⟩
      case measure => simp [intOf]; omega
     | false =>
      rw [hb] at hrem
      have hrem : ((m : Int) / 2 ^ t).tmod 2 = 0 := hrem
      obtain ⟨hgs1, hgs2, hgs3⟩ := hF.out.2.at' k hlt
      rw [← HMG.out.1, ← HMG.out.2] at hgs1
      rw [← HMG.out.2] at hgs2 hgs3
      have hLn : (GS.map natI).length = M.length := by rw [List.length_map, hF.out.2.len]
      have hLR := RowsD.rows (hLo.o.toD (by omega))
      obtain ⟨a5, c5, hv5, _, _⟩ := Sl.shape hLR
      rw [hLn] at hv5
      subst hv5
      have hLR2 : Rows2 (From w2.heap.size) wo (.slice a5 (GS.map natI).length c5) (GS.map natI) := by rw [hLn]; exact hLR
      obtain ⟨b5, o5, ar, cr, hb5, _, _, hcr, hrr⟩ := Rows2.at hLR2 k (by omega)
      subst hb5
      rw [gt_map _ _ _ (by rw [hF.out.2.len]; exact hlt), ← HMG.out.2] at hcr hrr
      have hgl := natI_len gk
      rw [hgl] at hcr
      have hrr2 : Ints (From w2.heap.size) wo (.slice ar gk.length cr) (natI gk) := by rw [← hgl]; exact hrr
      have hLA : SlOA OwnIn 22 w2.heap.size (fun j => (Value.slice (some ⟨b4, o4, none⟩) M.length c4).ownBlock = some j ∨ wo.heap.size ≤ j) wo (.slice (some ⟨b5, o5, none⟩) M.length c5) (GS.map natI) := hLo.more (fun j hj => hj)
      have happ := natI_app gk t
      have hgm2 : ∀ g ∈ gk ++ [t], g < (ordP P).toNat := fun g hg => by
       rcases List.mem_append.1 hg with h | h
       ·exact hgs2 g h
       ·rw [List.mem_singleton.1 h]; exact htlt
      have hgapp := hF.out.2.app hlt htlt
      rw [← HMG.out.2] at hgapp
      have hSk : Sub P (genN P gk) := G.genN_sub hgs2
      have HS := Lib.hid (And.intro hgs1 (And.intro hgm2 (And.intro happ (And.intro hgapp hSk)))); clear hgs1 hgs2 hgm2 happ hgapp hSk hrr hLR hLR2 hb hOi hLo
      go_wp2_with fail
      clear hrem hcm hcr
      refine Calls.mono (l01Own_ok wo _ (natI gk) _ hrr2 (by omega)) ?_
      rintro eP wP ⟨pv, rfl, hgP, hOP⟩
      clear hrr2
      go_wp2_with (first | (at_builtin; refine wp_app_int rfl _ _ rfl wo.heap.size _ (natI gk) (t : Int) rfl wP hOP rfl rfl (by omega) hgP.size ?_; intro v8 w8 hO8 hg8; have hgo8 : Ext wo w8 := grown_own hgP hg8 (fun b hb hlt => by have := (hOP.lt b hb).1; omega)) | fail)
      rw [← HS.out.2.2.1] at hO8
      have hI8 := hO8.ints (by rw [natI_len]; simp; omega)
      obtain ⟨a8, c8, hv8, _, _⟩ := hI8.shape
      subst hv8
      refine Calls.mono (l19Span_ok P G w8 _ _ (gk ++ [t]) Any _ h32 (Rows2.ext htN (grown_trans hgo2 hgo8)) hI8 HS.out.2.1 (by simp; omega)) ?_
      rintro eQ w9 ⟨qv, rfl, hg9, rfl⟩
      obtain ⟨m2, hm2⟩ : ∃ m2, m2 = msk P (genN P (gk ++ [t])) := ⟨_, rfl⟩
      rw [← hm2]
      have HM2 := Lib.hid hm2; clear hm2
      have hgo9 := grown_trans hgo8 hg9
      have hO89 := hO8.ext0 hg9
      clear hI8 hO8 hg8 hgP hOP
      generalize (natI (gk ++ [t])).length = ml at *
      go_wp2
      go_loopw [10, 11] (fun kv iv wr => ∃ (i : Nat) (kn : Bool), kv = .bool kn ∧ iv = .int .i64 i ∧ i ≤ M.length ∧ Ext w9 wr ∧ Hid (kn = true ↔ m2 ∈ M.take i)) (fun _ iv _ => M.length - (intOf iv).toNat)
      case atStart => exact ⟨0, false, rfl, rfl, by omega, Ext.refl _, Lib.hid (by simp)⟩
      case round =>
       obtain ⟨i, kn, rfl, rfl, hi, hk9, hKN⟩ := hrel
       have hgo9r := grown_trans hgo9 hk9
       have hOr := hOo.ext0 hgo9r
       by_cases hlti : i < M.length
       ·have hlti' : (i : Int) < M.length := by omega
        have hmt : m2 ∈ M.take (i + 1) ↔ m2 ∈ M.take i ∨ gt M i = m2 := by
         rw [take_succ_gt M i hlti, List.mem_append, List.mem_singleton]; exact or_congr Iff.rfl eq_comm
        have hOi := hOr.ints (by rw [natI_len]; omega)
        obtain ⟨b6, o6, hb6, _, _, hci⟩ := Ints.at (show Sl IntEl _ wr (.slice (some ⟨b4, o4, none⟩) M.length c4) (natI M) by rw [← natI_len] at hOi ⊢; exact hOi) i (by rw [natI_len]; exact hlti)
        cases hb6
        rw [natI_gt hlti] at hci
        clear hOi
        cases kn with
        | true =>
         have HK := Lib.hid (show (true = true) ↔ m2 ∈ M.take (i + 1) from ⟨fun _ => hmt.2 (.inl (hKN.out.1 rfl)), fun _ => rfl⟩)
         clear hmt hKN hci
         go_wp2
         go_roundw
         case rel => exact ⟨i + 1, true, rfl, by go_num, by omega, hk9, HK⟩
         case measure => simp [intOf]; omega
        | false =>
         obtain ⟨mi, hmi⟩ : ∃ mi, mi = gt M i := ⟨_, rfl⟩
         rw [← hmi] at hci hmt
         by_cases he : mi = m2
         ·have HK := Lib.hid (show (true = true) ↔ m2 ∈ M.take (i + 1) from ⟨fun _ => hmt.2 (.inr he), fun _ => rfl⟩)
          clear hmt hKN hmi
          subst he
          go_wp2
          go_roundw
          case rel => exact ⟨i + 1, true, by first | rfl | simp, by go_num, by omega, hk9, HK⟩
          case measure => simp [intOf]; omega
         ·have HK := Lib.hid (show (false = true) ↔ m2 ∈ M.take (i + 1) from ⟨fun h => (by cases h), fun h => (hmt.1 h).elim (fun h2 => (by have := hKN.out.2 h2; cases this)) (fun h2 => absurd h2 he)⟩)
          have hne : ((mi : Int) == (m2 : Int)) = false := by rw [natI_eqB]; simpa using he
          clear hmt hKN hmi he
          go_wp2
          go_roundw
          case rel => exact ⟨i + 1, false, by first | rfl | simp [hne], by go_num, by omega, hk9, HK⟩
          case measure => simp [intOf]; omega
       ·have hie : i = M.length := by omega
        have hkn := hKN.out
        rw [hie, List.take_length] at hkn
        have hni : ¬ (i : Int) < M.length := by omega
        have he2 : msk P (extP P (genN P gk) (elAt P (t : Int))) = m2 := by rw [HM2.out, genN_app]
        have hgqr := grown_trans hgo2 hgo9r
        cases kn with
        | true =>
         have hF2 := Lib.hid (And.intro (G.fnd_known (x := t) hF.out.1 HS.out.2.2.2.2 (by rw [← HMG.out.1]; exact HS.out.1) (by rw [he2]; exact hkn.1 rfl)) hF.out.2)
         have hLr := (hLA.less (A' := fun j => (Value.slice (some ⟨b4, o4, none⟩) M.length c4).ownBlock = some j) (fun j hj => .inl hj)).ext rdOwn hgo9r
         clear hkn hKN hie he2 hF
         go_wp2
         go_roundw
         case rel => exact ⟨M, GS, t + 1, _, _, rfl, rfl, by go_num, by omega, by omega, hlt, hgqr, hOr, hLr, hF2, HMG⟩
         case measure => simp [intOf]; omega
        | false =>
         have hn2 : ¬ m2 ∈ M := fun h => by have := hkn.2 h; cases this
         have hF1 := G.fnd_new hF.out.1 hlt HS.out.2.2.2.2 (by rw [← HMG.out.1]; exact HS.out.1) htlt (by rw [he2]; exact hn2)
         rw [he2] at hF1
         have hG1 := HS.out.2.2.2.1
         rw [← HM2.out] at hG1
         have hmg2 : m = gt (M ++ [m2]) k ∧ gk = gt (GS ++ [gk ++ [t]]) k := ⟨by rw [gt_append_left _ _ _ hlt]; exact HMG.out.1, by rw [gt_append_left _ _ _ (by rw [hF.out.2.len]; exact hlt)]; exact HMG.out.2⟩
         have hmap : (GS ++ [gk ++ [t]]).map natI = GS.map natI ++ [natI (gk ++ [t])] := by rw [List.map_append]; rfl
         have hmapM := natI_app M m2
         have hMl2 : (M ++ [m2]).length = M.length + 1 := by simp
         have hGl : (GS.map natI).length ≤ 1000000 := by omega
         have hnMl : (natI M).length ≤ 1000000 := by rw [natI_len]; omega
         have HF2 := Lib.hid (And.intro hF1 (And.intro hG1 (And.intro hmg2 (And.intro hmap (And.intro hmapM (And.intro hMl2 (And.intro hGl hnMl)))))))
         have hLr := hLA.ext rdOwn hgo9r
         have hO8r := hO89.ext0 hk9
         have h4o : ∀ j, (Value.slice (some ⟨b4, o4, none⟩) M.length c4).ownBlock = some j → j < wo.heap.size := fun j hj => (hOo.lt j hj).2
         have h8o : ∀ j, (Value.slice a8 ml c8).ownBlock = some j → wo.heap.size ≤ j ∧ j < wr.heap.size := fun j hj => hO8r.lt j hj
         have hsz9 := hgo9r.size
         have hszo := hgo2.size
         clear hkn hKN hie he2 hF hF1 hG1 hmg2 hmap hmapM hMl2 hGl hnMl hn2
         have kA : ∀ wA, wr.grownBy wA (Value.slice (some ⟨b4, o4, none⟩) M.length c4).ownBlock → Ext w2 wA ∧
           SlOA OwnIn 22 w2.heap.size (fun j => ((Value.slice (some ⟨b4, o4, none⟩) M.length c4).ownBlock = some j ∨ wo.heap.size ≤ j) ∧ j < wA.heap.size) wA (.slice (some ⟨b5, o5, none⟩) M.length c5) (GS.map natI) ∧
           OwnIn (fun j => (Value.slice a8 ml c8).ownBlock = some j) wA (.slice a8 ml c8) (natI (gk ++ [t])) := by
          intro wA hgA
          refine ⟨grown_own hgqr hgA (fun b hb hlt => by have := (hOr.lt b hb).1; omega), ?_, ?_⟩
          ·refine SlOA.less (A := fun j => (Value.slice (some ⟨b4, o4, none⟩) M.length c4).ownBlock = some j ∨ wo.heap.size ≤ j) ?_ (fun j hj => hj.1)
           cases hv : (Value.slice (some ⟨b4, o4, none⟩) M.length c4).ownBlock with
           | none => rw [hv] at hgA hLr; exact hLr.ext rdOwn hgA
           | some r => rw [hv] at hgA hLr; exact hLr.kept rdOwn hgA (.inl rfl)
          ·refine ⟨?_, fun j hj => hj, by rw [natI_len]; simp; omega⟩
           have h1 := (hO8r.v.kept hgA (by
            cases hv : (Value.slice a8 ml c8).ownBlock with
            | none => exact .inl rfl
            | some r => exact .inr (fun e => by have h2 := h8o r hv; have h3 := h4o r e.symm; omega)))
           exact Own.weak (Own.of h1) (Nat.zero_le _)
         have kB : ∀ (vA : Value) (wA : World), (∀ j, vA.ownBlock = some j → (Value.slice (some ⟨b4, o4, none⟩) M.length c4).ownBlock = some j ∨ wr.heap.size ≤ j) → Own w2.heap.size wA vA (natI M ++ [(m2 : Int)]) →
           ∀ j, vA.ownBlock = some j → (((Value.slice (some ⟨b4, o4, none⟩) M.length c4).ownBlock = some j ∨ wo.heap.size ≤ j) ∧ j < wA.heap.size) ∧ ¬ (Value.slice a8 ml c8).ownBlock = some j := by
          intro vA wA hbA hOA j hj
          refine ⟨⟨(hbA j hj).imp id (fun h => by omega), (hOA.lt j hj).2⟩, fun h => ?_⟩
          have h1 := h8o j h
          rcases hbA j hj with h2 | h2
          ·have := h4o j h2; omega
          ·omega
         go_wp2_with (first
          | (revert hOA; intro hOA; at_builtin; refine wp_app_take rfl _ _ rfl w2.heap.size (fun j => ((Value.slice (some ⟨b4, o4, none⟩) M.length c4).ownBlock = some j ∨ wo.heap.size ≤ j) ∧ j < wA.heap.size) (fun j => vA.ownBlock = some j) (fun j => (Value.slice a8 ml c8).ownBlock = some j) wA _ _ (GS.map natI) (natI (gk ++ [t])) rfl hLA2 h8A (fun j hj hlt => ⟨⟨.inr (h8o j hj).1, hlt⟩, by have := (h8o j hj).1; omega⟩) (kB vA wA hbA hOA) (fun j hj => hj.2) rfl rfl HF2.out.2.2.2.2.2.2.1 hgA2.size ?_; intro vB wB hLB hgB hbB)
          | (at_builtin; refine wp_app_intA rfl _ _ rfl w2.heap.size _ (natI M) (m2 : Int) rfl wr hOr rfl rfl HF2.out.2.2.2.2.2.2.2 hgqr.size ?_; intro vA wA hOA hgA hbA; obtain ⟨hgA2, hLA2, h8A⟩ := kA wA hgA)
          | fail)
         have hgB2 : Ext w2 wB := grown_own hgA2 hgB (fun b hb hlt => by have := (hLA2.avoids b hb).2.1; omega)
         have hOB : Own w2.heap.size wB vA (natI M ++ [(m2 : Int)]) := Own.of (hOA.v.kept hgB (by
          cases hv : vA.ownBlock with
          | none => exact .inl rfl
          | some r => exact .inr (fun e => (hLA2.avoids r e.symm).1 (kB vA wA hbA hOA r hv).1)))
         rw [← HF2.out.2.2.2.2.1] at hOB
         rw [← HF2.out.2.2.2.1] at hLB
         go_roundw
         case rel => exact ⟨M ++ [m2], GS ++ [gk ++ [t]], t + 1, vA, vB, rfl, rfl, by go_num, by omega, by omega, by rw [HF2.out.2.2.2.2.2.1]; omega, hgB2, hOB, hLB, Lib.hid ⟨HF2.out.1, HF2.out.2.1⟩, Lib.hid HF2.out.2.2.1⟩
         case measure => simp [intOf]; omega
    ·have hte : t = N := by omega
     have hF2 := Lib.hid (And.intro (hF.out.1.next (by have := HB.out.2.2.2.1; omega)) hF.out.2)
     clear hF
     have hnt : ¬ (t : Int) < N := by omega
     go_wp2
     go_roundw
     case rel => exact ⟨M, GS, k + 1, _, v5, rfl, rfl, by go_num, by omega, hgo2, hOo, hLo, hF2⟩
     case measure => simp [intOf]; omega
  ·have hie : k = M.length := by omega
   have hend : ∀ H, Sub P H → msk P H ∈ M := fun H S => by
    have h1 := hF.out.1
    exact G.fnd_end h1 (by omega) S
   have hfs := hF.out.1.sub
   have hmem : ∀ u, SubB P u ↔ ∃ j, j < M.length ∧ u = cseq P (ofMask P (gt M j)) := fun u => by
    constructor
    ·intro hu
     obtain ⟨j, hj, he⟩ := mem_gt (hend _ (G.subB hu))
     exact ⟨j, hj, by rw [he, G.ofMask_msk (G.subB hu)]; exact hu.2⟩
    ·rintro ⟨j, hj, rfl⟩
     obtain ⟨H, S, e⟩ := hfs _ (gt_mem hj)
     rw [e, G.ofMask_msk S]; exact G.subB_cseq S
   have HM := Lib.hid (And.intro hmem hfs); clear hmem hfs hend hF
   have hsX : ∀ k, (wr.alloc (.cells #[.slice none 0 0, .slice none 0 0] 130)).frozen? ⟨wr.heap.size, k, none⟩ = false := fun k => by simp
   have hcX : ∀ k, k < 2 → (wr.alloc (.cells #[.slice none 0 0, .slice none 0 0] 130)).cell? ⟨wr.heap.size, k, none⟩ = some (.slice none 0 0) := fun k hk => by
    rw [World.cell?_alloc_at _ _ _ _ rfl]
    rcases (show k = 0 ∨ k = 1 by omega) with rfl | rfl <;> rfl
   have hgX : Ext wr (wr.alloc (.cells #[.slice none 0 0, .slice none 0 0] 130)) := World.grownBy_alloc _ _ _
   have hzX : wr.heap.size < (wr.alloc (.cells #[.slice none 0 0, .slice none 0 0] 130)).heap.size := by simp
   have HX0 := Lib.hid (And.intro hsX (And.intro hcX (And.intro hgX hzX))); clear hsX hcX hgX hzX hL
   have hnk : ¬ (k : Int) < M.length := by omega
   clear hOi
   go_wp2
   clear hnk hie hlt hk
   obtain ⟨wF, rfl⟩ : ∃ wF : World, wF = wr := ⟨_, rfl⟩
   obtain ⟨ob, hob0⟩ : ∃ ob, ob = wF.heap.size := ⟨_, rfl⟩
   have HX1 := HX0.out
   rw [← hob0] at HX1 ⊢
   have hobF : wF.heap.size ≤ ob := by omega
   have hg2F := hg
   clear hg
   have HX2 := Lib.hid HX1; clear HX1 HX0 hob0
   go_loopw [13] (fun iv wr => ∃ (i : Nat) (sv : Value) (L : List (List (List Int))), iv = .int .i64 i ∧ i ≤ M.length ∧ Ext wF wr ∧ wr.cell? ⟨ob, 0, none⟩ = some sv ∧ wr.cell? ⟨ob, 1, none⟩ = some (.slice none 0 0) ∧ (∀ k, wr.frozen? ⟨ob, k, none⟩ = false) ∧ ob < wr.heap.size ∧
    Rows3 (fun k => k ≠ ob ∧ wF.heap.size ≤ k) wr sv L ∧ Hid (L.Pairwise (subLt P) ∧ (∀ u, u ∈ L ↔ ∃ j, j < i ∧ u = cseq P (ofMask P (gt M j))) ∧ L.length ≤ i)) (fun iv _ => M.length - (intOf iv).toNat)
   case atStart => exact ⟨0, _, [], rfl, by omega, HX2.out.2.2.1, HX2.out.2.1 0 (by omega), HX2.out.2.1 1 (by omega), HX2.out.1, HX2.out.2.2.2, ⟨none, 0, rfl, ⟨by simp, by simp, fun _ => rfl⟩, fun i hi => by simp at hi⟩, Lib.hid ⟨List.Pairwise.nil, fun u => by simp, by simp⟩⟩
   case round =>
    obtain ⟨i, sv, L, rfl, hi, hg, ho0, ho1, hof, hob, hL, hI⟩ := hrel
    have hg0r := grown_trans (grown_trans hg2 hg2F) hg
    by_cases hlt : i < M.length
    ·have hlt' : (i : Int) < M.length := by omega
     have h3r := Pres3.ext h37 hg0r
     have hOi := hO.ints (by rw [natI_len]; omega)
     obtain ⟨b4, o4, hb4, _, hb4l, hcm0⟩ := Ints.at (show Sl IntEl _ wF (.slice a4 M.length c4) (natI M) by rw [← natI_len] at hOi ⊢; exact hOi) i (by rw [natI_len]; exact hlt)
     rw [natI_gt hlt] at hcm0
     have hcm := hg.cell hcm0 (by simp)
     subst hb4
     obtain ⟨H, SH, hmH⟩ := HM.out.2 _ (gt_mem hlt)
     have hseq := l19Sequence_ok P G wr.drew (.agg #[vo6, vp6, vc6]) H Any SH h32 ⟨_, _, _, rfl, Pres3.ext h3r (grown_drew _ _)⟩
     rw [← hmH] at hseq
     have hcs : cseq P H = cseq P (ofMask P (gt M i)) := by rw [hmH, G.ofMask_msk SH]
     have hLS : ∀ v ∈ L, SubB P v := fun v hv => by
      obtain ⟨j, h1, h2⟩ := (hI.out.2.1 v).1 hv
      exact (HM.out.1 v).2 ⟨j, by omega, h2⟩
     have hlL : L.length ≤ i := hI.out.2.2
     have HX := Lib.hid (And.intro hlL (And.intro hcs (And.intro hLS (And.intro (G.subB_cseq SH) (And.intro hI.out.1 hI.out.2.1)))))
     obtain ⟨mi, hmi⟩ : ∃ mi, mi = gt M i := ⟨_, rfl⟩
     rw [← hmi] at hcm hseq
     obtain ⟨sa, sc, hsv, _, _⟩ := Sl.shape hL
     subst hsv
     obtain ⟨hc0, hc1, hc2⟩ := HB.out.1 wr hg0r
     have hsw0 := hg2F.size
     have hsw2 := hg2.size
     have hsw := HB.out.2.1
     have e1 : ∀ w', wr.grownBy w' (some ob) → w'.cell? ⟨w.heap.size, 0, none⟩ = some vo6 := fun w' h => h.cell hc0 (by simp; omega)
     have e2 : ∀ w', wr.grownBy w' (some ob) → w'.cell? ⟨w.heap.size, 1, none⟩ = some vp6 := fun w' h => h.cell hc1 (by simp; omega)
     have e3 : ∀ w', wr.grownBy w' (some ob) → w'.cell? ⟨w.heap.size, 2, none⟩ = some vc6 := fun w' h => h.cell hc2 (by simp; omega)
     have e4 : ∀ w', wr.grownBy w' (some ob) → w'.cell? ⟨b4, o4 + i, none⟩ = some (.int .i64 (mi : Int)) := fun w' h => h.cell hcm (by simp; omega)
     clear hc0 hc1 hc2 hcm hcm0 hI hcs hLS hmi hOi hmH SH hsw hsw0 hsw2
     go_wp2
     refine wp_region_held_drew (S := fun w' => wr.grownBy w' (some ob)) (by kernel_rfl) (grown_drew _ _) (fun hHeld => ?_)
     refine wpAnyH_take (i := 0) (v := ?va0_1) rfl (by kernel_rfl) (by kernel_rfl) (by kernel_rfl) (fun _ _ _ h => h) (Or.inl ⟨by rfl, ?hya0_1⟩) (by assumption) ?resta0_1
     case hya0_1 => (intro w hSw; (try dsimp only at hSw); go_simp; try with_reducible rfl)
     try simp only [Act.put, List.getElem_toArray, List.getElem_cons_succ, List.getElem_cons_zero, List.setIfInBounds_toArray, List.set_cons_zero, List.set_cons_succ]
     refine wpAnyH_take (i := 1) (v := ?va1_2) rfl (by kernel_rfl) (by kernel_rfl) (by kernel_rfl) (fun _ _ _ h => h) (Or.inl ⟨by rfl, ?hya1_2⟩) (by assumption) ?resta1_2
     case hya1_2 => (intro w hSw; (try dsimp only at hSw); go_simp; try with_reducible rfl)
     try simp only [Act.put, List.getElem_toArray, List.getElem_cons_succ, List.getElem_cons_zero, List.setIfInBounds_toArray, List.set_cons_zero, List.set_cons_succ]
     refine wpAnyH_take (i := 3) (v := ?va3_3) rfl (by kernel_rfl) (by kernel_rfl) (by kernel_rfl) (fun _ _ _ h => h) (Or.inl ⟨by rfl, ?hya3_3⟩) (by assumption) ?resta3_3
     case hya3_3 => (intro w hSw; (try dsimp only at hSw); go_simp; try with_reducible rfl)
     try simp only [Act.put, List.getElem_toArray, List.getElem_cons_succ, List.getElem_cons_zero, List.setIfInBounds_toArray, List.set_cons_zero, List.set_cons_succ]
     refine wpAnyH_take (i := 4) (v := ?va4_4) rfl (by kernel_rfl) (by kernel_rfl) (by kernel_rfl) (fun _ _ _ h => h) (Or.inl ⟨by rfl, ?hya4_4⟩) (by assumption) ?resta4_4
     case hya4_4 => (intro w hSw; (try dsimp only at hSw); go_simp; try with_reducible rfl)
     try simp only [Act.put, List.getElem_toArray, List.getElem_cons_succ, List.getElem_cons_zero, List.setIfInBounds_toArray, List.set_cons_zero, List.set_cons_succ]
     refine wpAnyH_take (i := 5) (v := ?va5_5) rfl (by kernel_rfl) (by kernel_rfl) (by kernel_rfl) (fun _ _ _ h => h) (Or.inl ⟨by rfl, ?hya5_5⟩) (by assumption) ?resta5_5
     case hya5_5 => (intro w hSw; (try dsimp only at hSw); go_simp; try with_reducible rfl)
     try simp only [Act.put, List.getElem_toArray, List.getElem_cons_succ, List.getElem_cons_zero, List.setIfInBounds_toArray, List.set_cons_zero, List.set_cons_succ]
     refine wpAnyH_take (i := 6) (v := ?va6_6) rfl (by kernel_rfl) (by kernel_rfl) (by kernel_rfl) (fun _ _ _ h => h) (Or.inl ⟨by rfl, ?hya6_6⟩) (by assumption) ?resta6_6
     case hya6_6 => (intro w hSw; (try dsimp only at hSw); go_simp; try with_reducible rfl)
     try simp only [Act.put, List.getElem_toArray, List.getElem_cons_succ, List.getElem_cons_zero, List.setIfInBounds_toArray, List.set_cons_zero, List.set_cons_succ]
     refine wpAnyH_take (i := 7) (v := ?va7_7) rfl (by kernel_rfl) (by kernel_rfl) (by kernel_rfl) (fun _ _ _ h => h) (Or.inl ⟨by rfl, ?hya7_7⟩) (by assumption) ?resta7_7
     case hya7_7 => (intro w hSw; (try dsimp only at hSw); go_simp; try with_reducible rfl)
     try simp only [Act.put, List.getElem_toArray, List.getElem_cons_succ, List.getElem_cons_zero, List.setIfInBounds_toArray, List.set_cons_zero, List.set_cons_succ]
     refine wpAnyH_ready (rs := [2, 8]) (by kernel_rfl) (by simp) ?_
     refine AllReadyH.cons rfl (fun Kc hKc => ?_) (AllReadyH.cons rfl (fun Kc hKc => ?_) AllReadyH.nil)
     ·go_simp
      refine hKc.out _ _ ?_ (fun hHeld => ?_)
      ·assumption
      clear hKc Kc
      try simp only [Act.put, List.getElem_toArray, List.getElem_cons_succ, List.getElem_cons_zero, List.setIfInBounds_toArray, List.set_cons_zero, List.set_cons_succ]
      refine wpAnyH_ready (rs := [8]) (by kernel_rfl) (by simp) ?_
      refine AllReadyH.cons rfl (fun Kc hKc => ?_) AllReadyH.nil
      go_simp
      go_at_call 205
      refine Calls.mono hseq ?_
      rintro eA wA ⟨uv, rfl, hgA, hUA⟩
      have hgA0 : Ext wr wA := grown_trans (grown_drew _ _) hgA
      have hgA2 : wr.grownBy wA (some ob) := grown_of_ext _ hgA0
      have hcA := hgA0.cell ho0 (by simp)
      obtain ⟨ua, uc, hvu, _, _⟩ := Sl.shape hUA
      subst hvu
      go_wp2_with fail
      refine hKc.out _ _ ?_ (fun hHeld => ?_)
      ·exact hgA2
      clear hKc Kc
      try simp only [Act.put, List.getElem_toArray, List.getElem_cons_succ, List.getElem_cons_zero, List.setIfInBounds_toArray, List.set_cons_zero, List.set_cons_succ]
      refine wpAnyH_ready (rs := [9]) (by kernel_rfl) (by simp) ?_
      refine AllReadyH.cons rfl (fun Kc hKc => ?_) AllReadyH.nil
      go_simp
      go_at_call 128
      refine Calls.mono (l19Insert_ok P G wA _ _ _ L (cseq P H) Any (fun k => k ≠ ob ∧ wF.heap.size ≤ k) ⟨_, _, _, rfl, Pres3.ext h3r hgA0⟩ (Rows3.ext hL hgA0) (Rows2.sub hUA (fun k hk _ => by have h1 : wr.drew.heap.size ≤ k := hk; have h2 := (grown_drew wr none).size; exact ⟨by omega, by omega⟩)) HX.out.2.2.1 HX.out.2.2.2.1 HX.out.2.2.2.2.1 (by omega)) ?_
      rintro eB wB ⟨rv, rfl, hgB, R, hR1, hR2, hR3, hRB⟩
      obtain ⟨ra, rc, hvr, _, _⟩ := Sl.shape hRB
      subst hvr
      have hgB0 := grown_trans hgA0 hgB
      have hgB2 : wr.grownBy wB (some ob) := grown_of_ext _ hgB0
      have hcB := hgB0.cell ho0 (by simp)
      have hcB1 := hgB0.cell ho1 (by simp)
      have hfB : ∀ k, wB.frozen? ⟨ob, k, none⟩ = false := fun k => (World.frozen?_of_block (w := wr) (hgB0.block ob hob (by simp))).trans (hof k)
      have hgp := grown_put wB ⟨ob, 0, none⟩ (.slice ra R.length rc)
      have hgw9 := grown_trans hgB2 hgp
      have HR := Lib.hid (And.intro hR1 (And.intro hR2 (And.intro hR3 hRB))); clear hR1 hR2 hR3 hRB hUA
      go_wp2_with fail
      refine hKc.out _ _ ?_ (fun hHeld => ?_)
      ·exact hgB2
      clear hKc Kc
      try simp only [Act.put, List.getElem_toArray, List.getElem_cons_succ, List.getElem_cons_zero, List.setIfInBounds_toArray, List.set_cons_zero, List.set_cons_succ]
      refine wpAnyH_take (i := 10) (v := ?va10_8) rfl (by kernel_rfl) (by kernel_rfl) (by kernel_rfl) (fun _ _ _ h => h) (Or.inl ⟨by rfl, ?hya10_8⟩) (by assumption) ?resta10_8
      case hya10_8 => (intro w hSw; (try dsimp only at hSw); go_simp; try with_reducible rfl)
      try simp only [Act.put, List.getElem_toArray, List.getElem_cons_succ, List.getElem_cons_zero, List.setIfInBounds_toArray, List.set_cons_zero, List.set_cons_succ]
      refine wpAnyH_ready (rs := [11]) (by kernel_rfl) (by simp) ?_
      refine AllReadyH.cons rfl (fun Kc hKc => ?_) AllReadyH.nil
      go_simp
      refine hKc.out _ _ ?_ (fun hHeld => ?_)
      ·exact hgw9
      clear hKc Kc
      try simp only [Act.put, List.getElem_toArray, List.getElem_cons_succ, List.getElem_cons_zero, List.setIfInBounds_toArray, List.set_cons_zero, List.set_cons_succ]
      refine wpAnyH_done (by kernel_rfl) ?_ _
      have hn0 : (wB.setCell ⟨ob, 0, none⟩ (.slice ra R.length rc)).cell? ⟨ob, 0, none⟩ = some (.slice ra R.length rc) := World.cell?_setCell_same _ _ _ hcB
      have hn1 : (wB.setCell ⟨ob, 0, none⟩ (.slice ra R.length rc)).cell? ⟨ob, 1, none⟩ = some (.slice none 0 0) := (World.cell?_setCell_other _ _ _ _ (by simp)).trans hcB1
      have hnf : ∀ k, (wB.setCell ⟨ob, 0, none⟩ (.slice ra R.length rc)).frozen? ⟨ob, k, none⟩ = false := fun k => by rw [World.frozen?_setCell]; exact hfB k
      have hns : ob < (wB.setCell ⟨ob, 0, none⟩ (.slice ra R.length rc)).heap.size := by have := hgp.size; have := hgB0.size; omega
      have hnF : Ext wF (wB.setCell ⟨ob, 0, none⟩ (.slice ra R.length rc)) := grown_own (grown_trans hg hgB0) hgp (fun b hb hlt => by have : ob = b := (by simpa using hb); omega)
      have hnR : Rows3 (fun k => k ≠ ob ∧ wF.heap.size ≤ k) (wB.setCell ⟨ob, 0, none⟩ (.slice ra R.length rc)) (.slice ra R.length rc) R := Rows3.mono HR.out.2.2.2 (frame_of hgp (fun k hk hlt => by have h1 : k ≠ ob ∧ wF.heap.size ≤ k := (by have h2 := hgA0.size; rcases hk with hk | hk; exact hk; exact ⟨by omega, by omega⟩); exact ⟨h1, fun e => h1.1 (by simpa using e.symm)⟩))
      have hInv : Hid (R.Pairwise (subLt P) ∧ (∀ u, u ∈ R ↔ ∃ j, j < i + 1 ∧ u = cseq P (ofMask P (gt M j))) ∧ R.length ≤ i + 1) := Lib.hid ⟨HR.out.1, fun u => by
       rw [HR.out.2.1 u, HX.out.2.2.2.2.2 u]
       constructor
       ·rintro (⟨j, h1, h2⟩ | h1)
        ·exact ⟨j, by omega, h2⟩
        ·exact ⟨i, by omega, by rw [← HX.out.2.1]; exact h1⟩
       ·rintro ⟨j, h1, h2⟩
        rcases Nat.lt_succ_iff_lt_or_eq.1 h1 with h3 | h3
        ·exact .inl ⟨j, h3, h2⟩
        ·subst h3; exact .inr (by rw [h2, ← HX.out.2.1]), by have := HR.out.2.2.1; omega⟩
      clear hcA hcB hcB1 ho0 ho1 hof hfB
      go_wp2
      go_roundw
      case rel => exact ⟨i + 1, _, R, by go_num, by omega, hnF, hn0, hn1, hnf, hns, hnR, hInv⟩
      case measure => simp [intOf]; omega
     ·go_simp
      go_at_call 205
      refine Calls.mono hseq ?_
      rintro eA wA ⟨uv, rfl, hgA, hUA⟩
      have hgA0 : Ext wr wA := grown_trans (grown_drew _ _) hgA
      have hgA2 : wr.grownBy wA (some ob) := grown_of_ext _ hgA0
      have hcA := hgA0.cell ho0 (by simp)
      obtain ⟨ua, uc, hvu, _, _⟩ := Sl.shape hUA
      subst hvu
      go_wp2_with fail
      refine hKc.out _ _ ?_ (fun hHeld => ?_)
      ·exact hgA2
      clear hKc Kc
      try simp only [Act.put, List.getElem_toArray, List.getElem_cons_succ, List.getElem_cons_zero, List.setIfInBounds_toArray, List.set_cons_zero, List.set_cons_succ]
      refine wpAnyH_ready (rs := [2]) (by kernel_rfl) (by simp) ?_
      refine AllReadyH.cons rfl (fun Kc hKc => ?_) AllReadyH.nil
      go_simp
      refine hKc.out _ _ ?_ (fun hHeld => ?_)
      ·assumption
      clear hKc Kc
      try simp only [Act.put, List.getElem_toArray, List.getElem_cons_succ, List.getElem_cons_zero, List.setIfInBounds_toArray, List.set_cons_zero, List.set_cons_succ]
      refine wpAnyH_ready (rs := [9]) (by kernel_rfl) (by simp) ?_
      refine AllReadyH.cons rfl (fun Kc hKc => ?_) AllReadyH.nil
      go_simp
      go_at_call 128
      refine Calls.mono (l19Insert_ok P G wA _ _ _ L (cseq P H) Any (fun k => k ≠ ob ∧ wF.heap.size ≤ k) ⟨_, _, _, rfl, Pres3.ext h3r hgA0⟩ (Rows3.ext hL hgA0) (Rows2.sub hUA (fun k hk _ => by have h1 : wr.drew.heap.size ≤ k := hk; have h2 := (grown_drew wr none).size; exact ⟨by omega, by omega⟩)) HX.out.2.2.1 HX.out.2.2.2.1 HX.out.2.2.2.2.1 (by omega)) ?_
      rintro eB wB ⟨rv, rfl, hgB, R, hR1, hR2, hR3, hRB⟩
      obtain ⟨ra, rc, hvr, _, _⟩ := Sl.shape hRB
      subst hvr
      have hgB0 := grown_trans hgA0 hgB
      have hgB2 : wr.grownBy wB (some ob) := grown_of_ext _ hgB0
      have hcB := hgB0.cell ho0 (by simp)
      have hcB1 := hgB0.cell ho1 (by simp)
      have hfB : ∀ k, wB.frozen? ⟨ob, k, none⟩ = false := fun k => (World.frozen?_of_block (w := wr) (hgB0.block ob hob (by simp))).trans (hof k)
      have hgp := grown_put wB ⟨ob, 0, none⟩ (.slice ra R.length rc)
      have hgw9 := grown_trans hgB2 hgp
      have HR := Lib.hid (And.intro hR1 (And.intro hR2 (And.intro hR3 hRB))); clear hR1 hR2 hR3 hRB hUA
      go_wp2_with fail
      refine hKc.out _ _ ?_ (fun hHeld => ?_)
      ·exact hgB2
      clear hKc Kc
      try simp only [Act.put, List.getElem_toArray, List.getElem_cons_succ, List.getElem_cons_zero, List.setIfInBounds_toArray, List.set_cons_zero, List.set_cons_succ]
      refine wpAnyH_take (i := 10) (v := ?va10_9) rfl (by kernel_rfl) (by kernel_rfl) (by kernel_rfl) (fun _ _ _ h => h) (Or.inl ⟨by rfl, ?hya10_9⟩) (by assumption) ?resta10_9
      case hya10_9 => (intro w hSw; (try dsimp only at hSw); go_simp; try with_reducible rfl)
      try simp only [Act.put, List.getElem_toArray, List.getElem_cons_succ, List.getElem_cons_zero, List.setIfInBounds_toArray, List.set_cons_zero, List.set_cons_succ]
      refine wpAnyH_ready (rs := [11]) (by kernel_rfl) (by simp) ?_
      refine AllReadyH.cons rfl (fun Kc hKc => ?_) AllReadyH.nil
      go_simp
      refine hKc.out _ _ ?_ (fun hHeld => ?_)
      ·exact hgw9
      clear hKc Kc
      try simp only [Act.put, List.getElem_toArray, List.getElem_cons_succ, List.getElem_cons_zero, List.setIfInBounds_toArray, List.set_cons_zero, List.set_cons_succ]
      refine wpAnyH_done (by kernel_rfl) ?_ _
      have hn0 : (wB.setCell ⟨ob, 0, none⟩ (.slice ra R.length rc)).cell? ⟨ob, 0, none⟩ = some (.slice ra R.length rc) := World.cell?_setCell_same _ _ _ hcB
      have hn1 : (wB.setCell ⟨ob, 0, none⟩ (.slice ra R.length rc)).cell? ⟨ob, 1, none⟩ = some (.slice none 0 0) := (World.cell?_setCell_other _ _ _ _ (by simp)).trans hcB1
      have hnf : ∀ k, (wB.setCell ⟨ob, 0, none⟩ (.slice ra R.length rc)).frozen? ⟨ob, k, none⟩ = false := fun k => by rw [World.frozen?_setCell]; exact hfB k
      have hns : ob < (wB.setCell ⟨ob, 0, none⟩ (.slice ra R.length rc)).heap.size := by have := hgp.size; have := hgB0.size; omega
      have hnF : Ext wF (wB.setCell ⟨ob, 0, none⟩ (.slice ra R.length rc)) := grown_own (grown_trans hg hgB0) hgp (fun b hb hlt => by have : ob = b := (by simpa using hb); omega)
      have hnR : Rows3 (fun k => k ≠ ob ∧ wF.heap.size ≤ k) (wB.setCell ⟨ob, 0, none⟩ (.slice ra R.length rc)) (.slice ra R.length rc) R := Rows3.mono HR.out.2.2.2 (frame_of hgp (fun k hk hlt => by have h1 : k ≠ ob ∧ wF.heap.size ≤ k := (by have h2 := hgA0.size; rcases hk with hk | hk; exact hk; exact ⟨by omega, by omega⟩); exact ⟨h1, fun e => h1.1 (by simpa using e.symm)⟩))
      have hInv : Hid (R.Pairwise (subLt P) ∧ (∀ u, u ∈ R ↔ ∃ j, j < i + 1 ∧ u = cseq P (ofMask P (gt M j))) ∧ R.length ≤ i + 1) := Lib.hid ⟨HR.out.1, fun u => by
       rw [HR.out.2.1 u, HX.out.2.2.2.2.2 u]
       constructor
       ·rintro (⟨j, h1, h2⟩ | h1)
        ·exact ⟨j, by omega, h2⟩
        ·exact ⟨i, by omega, by rw [← HX.out.2.1]; exact h1⟩
       ·rintro ⟨j, h1, h2⟩
        rcases Nat.lt_succ_iff_lt_or_eq.1 h1 with h3 | h3
        ·exact .inl ⟨j, h3, h2⟩
        ·subst h3; exact .inr (by rw [h2, ← HX.out.2.1]), by have := HR.out.2.2.1; omega⟩
      clear hcA hcB hcB1 ho0 ho1 hof hfB
      go_wp2
      go_roundw
      case rel => exact ⟨i + 1, _, R, by go_num, by omega, hnF, hn0, hn1, hnf, hns, hnR, hInv⟩
      case measure => simp [intOf]; omega
    ·have hie : i = M.length := by omega
     have hlat : LatL P L := ⟨hI.out.1, fun u => by rw [hI.out.2.1 u, hie]; exact (HM.out.1 u).symm⟩
     have hLl : L.length ≤ 100000 := by have := hI.out.2.2; omega
     obtain ⟨sa, sc, hsv, _, _⟩ := Sl.shape hL
     subst hsv
     have hLne : 0 < L.length := (G.lat_top hlat).1
     obtain ⟨bL, oL, _, _, hbL, hbn, _, _, _⟩ := Rows3.at hL 0 hLne
     have HL := Lib.hid hlat; clear hlat hI hLne
     subst hbL
     have hbn : bL ≠ ob := hbn.1
     have hni : ¬ (i : Int) < M.length := by omega
     go_wp2
     clear hni hie hlt hi
     obtain ⟨wZ, rfl⟩ : ∃ wZ : World, wZ = wr := ⟨_, rfl⟩
     have hgZ := grown_trans hg2F hg
     have hg0Z := grown_trans hg2 hgZ
     clear hg
     go_loopw [14] (fun kv wr => ∃ (k : Nat) (mv : Value), kv = .int .i64 k ∧ k ≤ L.length ∧ wZ.grownBy wr (some ob) ∧ wr.cell? ⟨ob, 0, none⟩ = some (.slice (some ⟨bL, oL, none⟩) L.length sc) ∧ wr.cell? ⟨ob, 1, none⟩ = some mv ∧ (∀ k, wr.frozen? ⟨ob, k, none⟩ = false) ∧ ob < wr.heap.size ∧
      Own wZ.heap.size wr mv (natI ((L.take k).map (mskU P)))) (fun kv _ => L.length - (intOf kv).toNat)
     case atStart => exact ⟨0, _, rfl, by omega, grown_refl _ _, ho0, ho1, hof, hob, World.ownsRow_nil _ _ _ _⟩
     case round =>
      have hobZ := hob
      clear ho0 ho1 hof hob
      obtain ⟨k, mv, rfl, hk, hg, ho0, ho1, hof, hob, hO⟩ := hrel
      by_cases hlt : k < L.length
      ·have hlt' : (k : Int) < L.length := by omega
       obtain ⟨b7, o7, a7, c7, hb7, hbs, hbl, hcl, hru⟩ := Rows3.at hL k hlt
       cases hb7
       have hub := (HL.out.2 _).1 (gt_mem hlt)
       obtain ⟨u, hu⟩ : ∃ u, u = gt L k := ⟨_, rfl⟩
       rw [← hu] at hcl hru hub
       have hruD : Rows2 Any wr.drew (.slice a7 u.length c7) (cseq P (genP P (fun x => x ∈ u))) := by
        rw [← hub.2]
        exact Rows2.mono hru (frame_of (grown_trans hg (grown_drew wr (some ob))) (fun j hj _ => ⟨trivial, fun e => hj.1 (by simpa using e.symm)⟩))
       have hsw0 := hgZ.size
       have hsw2 := hg2.size
       have hswF := hg2F.size
       have h3D : Pres3 Any wr.drew vo6 vp6 vc6 P := Pres3.mono h37 (fun j _ hlt => ⟨trivial, Nat.lt_of_lt_of_le hlt (Nat.le_trans hg0Z.size (grown_trans hg (grown_drew wr (some ob))).size), ((grown_trans hg (grown_drew wr (some ob))).block j (Nat.lt_of_lt_of_le hlt hg0Z.size) (fun e => by have : ob = j := (by first | simpa using e | simpa using e.symm); omega)).trans (hg0Z.block j hlt (by simp))⟩)
       have hbits := l19Bits_ok P G wr.drew (.agg #[vo6, vp6, vc6]) (.slice a7 u.length c7) _ Any Any (G.subB hub) h32 ⟨_, _, _, rfl, h3D⟩ hruD
       obtain ⟨q, hq⟩ : ∃ q, q = msk P (genP P (fun x => x ∈ u)) := ⟨_, rfl⟩
       rw [← hq] at hbits
       have happ : natI ((L.take (k + 1)).map (mskU P)) = natI ((L.take k).map (mskU P)) ++ [(q : Int)] := by
        rw [take_succ_gt L k hlt, List.map_append, List.map_singleton, natI_app, hq, hu]; rfl
       have hml : (natI ((L.take k).map (mskU P))).length ≤ 1000000 := by rw [natI_len, List.length_map, List.length_take]; omega
       have HU := Lib.hid (And.intro happ hml); clear happ hml hq hub hruD h3D hu hru
       obtain ⟨mva, mvn, mvc, hmv⟩ : ∃ a n c, mv = .slice a n c := by
        rcases hO.2 with ⟨h1, _⟩ | ⟨g, cp, _, h1, _⟩ <;> exact ⟨_, _, _, h1⟩
       subst hmv
       obtain ⟨hc0, hc1, hc2⟩ := HB.out.1 wZ hg0Z
       have hsw := HB.out.2.1
       have hszZ := hg.size
       have e1 : ∀ w', wZ.grownBy w' (some ob) → w'.cell? ⟨w.heap.size, 0, none⟩ = some vo6 := fun w' h => h.cell hc0 (by simp; omega)
       have e2 : ∀ w', wZ.grownBy w' (some ob) → w'.cell? ⟨w.heap.size, 1, none⟩ = some vp6 := fun w' h => h.cell hc1 (by simp; omega)
       have e3 : ∀ w', wZ.grownBy w' (some ob) → w'.cell? ⟨w.heap.size, 2, none⟩ = some vc6 := fun w' h => h.cell hc2 (by simp; omega)
       have e4 : ∀ w', wZ.grownBy w' (some ob) → w'.cell? ⟨bL, oL + k, none⟩ = some (.slice a7 u.length c7) := fun w' h => h.cell hcl (by simp; omega)
       clear hc0 hc1 hc2 hcl hsw hsw0 hsw2 hswF
       go_wp2
       refine wp_region_held_drew (S := fun w' => wZ.grownBy w' (some ob) ∧ w'.cell? ⟨ob, 0, none⟩ = some (.slice (some ⟨bL, oL, none⟩) L.length sc)) (by kernel_rfl) ⟨grown_trans hg (grown_drew _ _), ho0⟩ (fun hHeld => ?_)
       refine wpAnyH_take (i := 0) (v := ?vb0_1) rfl (by kernel_rfl) (by kernel_rfl) (by kernel_rfl) (fun _ _ _ h => h) (Or.inl ⟨by rfl, ?hyb0_1⟩) (by assumption) ?restb0_1
       case hyb0_1 => (intro w hSw; (try dsimp only at hSw); obtain ⟨hSw, hSc⟩ := hSw; go_simp; try with_reducible rfl)
       try simp only [Act.put, List.getElem_toArray, List.getElem_cons_succ, List.getElem_cons_zero, List.setIfInBounds_toArray, List.set_cons_zero, List.set_cons_succ]
       refine wpAnyH_take (i := 2) (v := ?vb2_2) rfl (by kernel_rfl) (by kernel_rfl) (by kernel_rfl) (fun _ _ _ h => h) (Or.inl ⟨by rfl, ?hyb2_2⟩) (by assumption) ?restb2_2
       case hyb2_2 => (intro w hSw; (try dsimp only at hSw); obtain ⟨hSw, hSc⟩ := hSw; go_simp; try with_reducible rfl)
       try simp only [Act.put, List.getElem_toArray, List.getElem_cons_succ, List.getElem_cons_zero, List.setIfInBounds_toArray, List.set_cons_zero, List.set_cons_succ]
       refine wpAnyH_take (i := 3) (v := ?vb3_3) rfl (by kernel_rfl) (by kernel_rfl) (by kernel_rfl) (fun _ _ _ h => h) (Or.inl ⟨by rfl, ?hyb3_3⟩) (by assumption) ?restb3_3
       case hyb3_3 => (intro w hSw; (try dsimp only at hSw); obtain ⟨hSw, hSc⟩ := hSw; go_simp; try with_reducible rfl)
       try simp only [Act.put, List.getElem_toArray, List.getElem_cons_succ, List.getElem_cons_zero, List.setIfInBounds_toArray, List.set_cons_zero, List.set_cons_succ]
       refine wpAnyH_take (i := 4) (v := ?vb4_4) rfl (by kernel_rfl) (by kernel_rfl) (by kernel_rfl) (fun _ _ _ h => h) (Or.inl ⟨by rfl, ?hyb4_4⟩) (by assumption) ?restb4_4
       case hyb4_4 => (intro w hSw; (try dsimp only at hSw); obtain ⟨hSw, hSc⟩ := hSw; go_simp; try with_reducible rfl)
       try simp only [Act.put, List.getElem_toArray, List.getElem_cons_succ, List.getElem_cons_zero, List.setIfInBounds_toArray, List.set_cons_zero, List.set_cons_succ]
       refine wpAnyH_take (i := 5) (v := ?vb5_5) rfl (by kernel_rfl) (by kernel_rfl) (by kernel_rfl) (fun _ _ _ h => h) (Or.inl ⟨by rfl, ?hyb5_5⟩) (by assumption) ?restb5_5
       case hyb5_5 => (intro w hSw; (try dsimp only at hSw); obtain ⟨hSw, hSc⟩ := hSw; go_simp; try with_reducible rfl)
       try simp only [Act.put, List.getElem_toArray, List.getElem_cons_succ, List.getElem_cons_zero, List.setIfInBounds_toArray, List.set_cons_zero, List.set_cons_succ]
       refine wpAnyH_take (i := 6) (v := ?vb6_6) rfl (by kernel_rfl) (by kernel_rfl) (by kernel_rfl) (fun _ _ _ h => h) (Or.inl ⟨by rfl, ?hyb6_6⟩) (by assumption) ?restb6_6
       case hyb6_6 => (intro w hSw; (try dsimp only at hSw); obtain ⟨hSw, hSc⟩ := hSw; go_simp; try with_reducible rfl)
       try simp only [Act.put, List.getElem_toArray, List.getElem_cons_succ, List.getElem_cons_zero, List.setIfInBounds_toArray, List.set_cons_zero, List.set_cons_succ]
       refine wpAnyH_take (i := 7) (v := ?vb7_7) rfl (by kernel_rfl) (by kernel_rfl) (by kernel_rfl) (fun _ _ _ h => h) (Or.inl ⟨by rfl, ?hyb7_7⟩) (by assumption) ?restb7_7
       case hyb7_7 => (intro w hSw; (try dsimp only at hSw); obtain ⟨hSw, hSc⟩ := hSw; go_simp; try with_reducible rfl)
       try simp only [Act.put, List.getElem_toArray, List.getElem_cons_succ, List.getElem_cons_zero, List.setIfInBounds_toArray, List.set_cons_zero, List.set_cons_succ]
       refine wpAnyH_ready (rs := [1, 8]) (by kernel_rfl) (by simp) ?_
       refine AllReadyH.cons rfl (fun Kc hKc => ?_) (AllReadyH.cons rfl (fun Kc hKc => ?_) AllReadyH.nil)
       ·go_simp
        refine hKc.out _ _ ?_ (fun hHeld => ?_)
        ·assumption
        clear hKc Kc
        try simp only [Act.put, List.getElem_toArray, List.getElem_cons_succ, List.getElem_cons_zero, List.setIfInBounds_toArray, List.set_cons_zero, List.set_cons_succ]
        refine wpAnyH_ready (rs := [8]) (by kernel_rfl) (by simp) ?_
        refine AllReadyH.cons rfl (fun Kc hKc => ?_) AllReadyH.nil
        go_simp
        go_at_call 206
        refine Calls.mono hbits ?_
        rintro eK wK ⟨kv, rfl, hgK, rfl⟩
        have hgK0 : Ext wr wK := grown_trans (grown_drew _ _) hgK
        have hgK2 : wZ.grownBy wK (some ob) := grown_trans hg (grown_of_ext _ hgK0)
        have hk0 := hgK0.cell ho0 (by simp)
        have hk1 := hgK0.cell ho1 (by simp)
        have hkf : ∀ k, wK.frozen? ⟨ob, k, none⟩ = false := fun k => (World.frozen?_of_block (w := wr) (hgK0.block ob hob (by simp))).trans (hof k)
        have hOK := hO.ext0 hgK0
        have hzK := hgK0.size
        have hobK : ob < wK.heap.size := by omega
        go_wp2_with fail
        refine hKc.out _ _ ?_ (fun hHeld => ?_)
        ·exact ⟨hgK2, hk0⟩
        clear hKc Kc
        try simp only [Act.put, List.getElem_toArray, List.getElem_cons_succ, List.getElem_cons_zero, List.setIfInBounds_toArray, List.set_cons_zero, List.set_cons_succ]
        refine wpAnyH_ready (rs := [9]) (by kernel_rfl) (by simp) ?_
        refine AllReadyH.cons rfl (fun Kc hKc => ?_) AllReadyH.nil
        go_simp
        refine hKc.out _ _ ?_ (fun hHeld => ?_)
        ·exact ⟨grown_trans hgK2 (grown_of_ext _ (World.grownBy_alloc _ _ _)), (World.grownBy_alloc wK _ none).cell hk0 (by simp)⟩
        clear hKc Kc
        try simp only [Act.put, List.getElem_toArray, List.getElem_cons_succ, List.getElem_cons_zero, List.setIfInBounds_toArray, List.set_cons_zero, List.set_cons_succ]
        refine wpAnyH_ready (rs := [10]) (by kernel_rfl) (by simp) ?_
        refine AllReadyH.cons rfl (fun Kc hKc => ?_) AllReadyH.nil
        refine step_app_int rfl _ _ rfl wZ.heap.size (.slice mva mvn mvc) (natI ((L.take k).map (mskU P))) (q : Int) rfl wK hOK rfl rfl HU.out.2 (by omega) ?_
        intro v8 w8 hO8 hg8
        have hbk : ∀ b, (Value.slice mva mvn mvc).ownBlock = some b → wZ.heap.size ≤ b := fun b hb => (hOK.lt b hb).1
        have hj0 := hg8.cell hk0 (fun e => by have h0 : wZ.heap.size ≤ ob := hbk _ e.symm; omega)
        have hj1 := hg8.cell hk1 (fun e => by have h0 : wZ.heap.size ≤ ob := hbk _ e.symm; omega)
        have hjf : ∀ k, w8.frozen? ⟨ob, k, none⟩ = false := fun k => (World.frozen?_of_block (w := wK) (hg8.block ob (by omega) (fun e => by have := hbk _ e.symm; omega))).trans (hkf k)
        have hgw8 : wZ.grownBy w8 (some ob) := grown_own hgK2 hg8 (fun b hb hlt => by have := hbk b hb; omega)
        obtain ⟨ja, jn, jc, hj8⟩ : ∃ a n c, v8 = .slice a n c := (by rcases hO8.2 with ⟨h1, _⟩ | ⟨g, cp, _, h1, _⟩ <;> exact ⟨_, _, _, h1⟩)
        subst hj8
        have hgp := grown_put w8 ⟨ob, 1, none⟩ (.slice ja jn jc)
        have hn0 : (w8.setCell ⟨ob, 1, none⟩ (.slice ja jn jc)).cell? ⟨ob, 0, none⟩ = some (.slice (some ⟨bL, oL, none⟩) L.length sc) := (World.cell?_setCell_other _ _ _ _ (by simp)).trans hj0
        have hn1 : (w8.setCell ⟨ob, 1, none⟩ (.slice ja jn jc)).cell? ⟨ob, 1, none⟩ = some (.slice ja jn jc) := World.cell?_setCell_same _ _ _ hj1
        have hnf : ∀ k, (w8.setCell ⟨ob, 1, none⟩ (.slice ja jn jc)).frozen? ⟨ob, k, none⟩ = false := fun k => by rw [World.frozen?_setCell]; exact hjf k
        have hns : ob < (w8.setCell ⟨ob, 1, none⟩ (.slice ja jn jc)).heap.size := by have := hgp.size; have := hg8.size; omega
        have hne8 : (Value.slice ja jn jc).ownBlock = none ∨ (Value.slice ja jn jc).ownBlock ≠ some ob := .inr (fun e => by have := (hO8.lt _ e).1; omega)
        have hO9 : Own wZ.heap.size (w8.setCell ⟨ob, 1, none⟩ (.slice ja jn jc)) (.slice ja jn jc) (natI ((L.take (k + 1)).map (mskU P))) := by rw [HU.out.1]; exact Own.of (hO8.v.kept hgp hne8)
        have hgw9 := grown_trans hgw8 hgp
        refine hKc.out _ _ ?_ (fun hHeld => ?_)
        ·exact ⟨hgw8, hj0⟩
        clear hKc Kc
        try simp only [Act.put, List.getElem_toArray, List.getElem_cons_succ, List.getElem_cons_zero, List.setIfInBounds_toArray, List.set_cons_zero, List.set_cons_succ]
        refine wpAnyH_take (i := 11) (v := ?vb11_8) rfl (by kernel_rfl) (by kernel_rfl) (by kernel_rfl) (fun _ _ _ h => h) (Or.inl ⟨by rfl, ?hyb11_8⟩) (by assumption) ?restb11_8
        case hyb11_8 => (intro w hSw; (try dsimp only at hSw); obtain ⟨hSw, hSc⟩ := hSw; go_simp; try with_reducible rfl)
        try simp only [Act.put, List.getElem_toArray, List.getElem_cons_succ, List.getElem_cons_zero, List.setIfInBounds_toArray, List.set_cons_zero, List.set_cons_succ]
        refine wpAnyH_ready (rs := [12]) (by kernel_rfl) (by simp) ?_
        refine AllReadyH.cons rfl (fun Kc hKc => ?_) AllReadyH.nil
        go_simp
        refine hKc.out _ _ ?_ (fun hHeld => ?_)
        ·exact ⟨hgw9, hn0⟩
        clear hKc Kc
        try simp only [Act.put, List.getElem_toArray, List.getElem_cons_succ, List.getElem_cons_zero, List.setIfInBounds_toArray, List.set_cons_zero, List.set_cons_succ]
        refine wpAnyH_done (by kernel_rfl) ?_ _
        clear hk0 hk1 hkf hj0 hj1 hjf ho0 ho1 hof
        go_wp2
        go_roundw
        case rel => exact ⟨k + 1, _, by go_num, by omega, hgw9, hn0, hn1, hnf, hns, hO9⟩
        case measure => simp [intOf]; omega
       ·go_simp
        go_at_call 206
        refine Calls.mono hbits ?_
        rintro eK wK ⟨kv, rfl, hgK, rfl⟩
        have hgK0 : Ext wr wK := grown_trans (grown_drew _ _) hgK
        have hgK2 : wZ.grownBy wK (some ob) := grown_trans hg (grown_of_ext _ hgK0)
        have hk0 := hgK0.cell ho0 (by simp)
        have hk1 := hgK0.cell ho1 (by simp)
        have hkf : ∀ k, wK.frozen? ⟨ob, k, none⟩ = false := fun k => (World.frozen?_of_block (w := wr) (hgK0.block ob hob (by simp))).trans (hof k)
        have hOK := hO.ext0 hgK0
        have hzK := hgK0.size
        have hobK : ob < wK.heap.size := by omega
        go_wp2_with fail
        refine hKc.out _ _ ?_ (fun hHeld => ?_)
        ·exact ⟨hgK2, hk0⟩
        clear hKc Kc
        try simp only [Act.put, List.getElem_toArray, List.getElem_cons_succ, List.getElem_cons_zero, List.setIfInBounds_toArray, List.set_cons_zero, List.set_cons_succ]
        refine wpAnyH_ready (rs := [1, 9]) (by kernel_rfl) (by simp) ?_
        refine AllReadyH.cons rfl (fun Kc hKc => ?_) (AllReadyH.cons rfl (fun Kc hKc => ?_) AllReadyH.nil)
        ·go_simp
         refine hKc.out _ _ ?_ (fun hHeld => ?_)
         ·assumption
         clear hKc Kc
         try simp only [Act.put, List.getElem_toArray, List.getElem_cons_succ, List.getElem_cons_zero, List.setIfInBounds_toArray, List.set_cons_zero, List.set_cons_succ]
         refine wpAnyH_ready (rs := [9]) (by kernel_rfl) (by simp) ?_
         refine AllReadyH.cons rfl (fun Kc hKc => ?_) AllReadyH.nil
         go_simp
         refine hKc.out _ _ ?_ (fun hHeld => ?_)
         ·exact ⟨grown_trans hgK2 (grown_of_ext _ (World.grownBy_alloc _ _ _)), (World.grownBy_alloc wK _ none).cell hk0 (by simp)⟩
         clear hKc Kc
         try simp only [Act.put, List.getElem_toArray, List.getElem_cons_succ, List.getElem_cons_zero, List.setIfInBounds_toArray, List.set_cons_zero, List.set_cons_succ]
         refine wpAnyH_ready (rs := [10]) (by kernel_rfl) (by simp) ?_
         refine AllReadyH.cons rfl (fun Kc hKc => ?_) AllReadyH.nil
         refine step_app_int rfl _ _ rfl wZ.heap.size (.slice mva mvn mvc) (natI ((L.take k).map (mskU P))) (q : Int) rfl wK hOK rfl rfl HU.out.2 (by omega) ?_
         intro v8 w8 hO8 hg8
         have hbk : ∀ b, (Value.slice mva mvn mvc).ownBlock = some b → wZ.heap.size ≤ b := fun b hb => (hOK.lt b hb).1
         have hj0 := hg8.cell hk0 (fun e => by have h0 : wZ.heap.size ≤ ob := hbk _ e.symm; omega)
         have hj1 := hg8.cell hk1 (fun e => by have h0 : wZ.heap.size ≤ ob := hbk _ e.symm; omega)
         have hjf : ∀ k, w8.frozen? ⟨ob, k, none⟩ = false := fun k => (World.frozen?_of_block (w := wK) (hg8.block ob (by omega) (fun e => by have := hbk _ e.symm; omega))).trans (hkf k)
         have hgw8 : wZ.grownBy w8 (some ob) := grown_own hgK2 hg8 (fun b hb hlt => by have := hbk b hb; omega)
         obtain ⟨ja, jn, jc, hj8⟩ : ∃ a n c, v8 = .slice a n c := (by rcases hO8.2 with ⟨h1, _⟩ | ⟨g, cp, _, h1, _⟩ <;> exact ⟨_, _, _, h1⟩)
         subst hj8
         have hgp := grown_put w8 ⟨ob, 1, none⟩ (.slice ja jn jc)
         have hn0 : (w8.setCell ⟨ob, 1, none⟩ (.slice ja jn jc)).cell? ⟨ob, 0, none⟩ = some (.slice (some ⟨bL, oL, none⟩) L.length sc) := (World.cell?_setCell_other _ _ _ _ (by simp)).trans hj0
         have hn1 : (w8.setCell ⟨ob, 1, none⟩ (.slice ja jn jc)).cell? ⟨ob, 1, none⟩ = some (.slice ja jn jc) := World.cell?_setCell_same _ _ _ hj1
         have hnf : ∀ k, (w8.setCell ⟨ob, 1, none⟩ (.slice ja jn jc)).frozen? ⟨ob, k, none⟩ = false := fun k => by rw [World.frozen?_setCell]; exact hjf k
         have hns : ob < (w8.setCell ⟨ob, 1, none⟩ (.slice ja jn jc)).heap.size := by have := hgp.size; have := hg8.size; omega
         have hne8 : (Value.slice ja jn jc).ownBlock = none ∨ (Value.slice ja jn jc).ownBlock ≠ some ob := .inr (fun e => by have := (hO8.lt _ e).1; omega)
         have hO9 : Own wZ.heap.size (w8.setCell ⟨ob, 1, none⟩ (.slice ja jn jc)) (.slice ja jn jc) (natI ((L.take (k + 1)).map (mskU P))) := by rw [HU.out.1]; exact Own.of (hO8.v.kept hgp hne8)
         have hgw9 := grown_trans hgw8 hgp
         refine hKc.out _ _ ?_ (fun hHeld => ?_)
         ·exact ⟨hgw8, hj0⟩
         clear hKc Kc
         try simp only [Act.put, List.getElem_toArray, List.getElem_cons_succ, List.getElem_cons_zero, List.setIfInBounds_toArray, List.set_cons_zero, List.set_cons_succ]
         refine wpAnyH_take (i := 11) (v := ?vb11_9) rfl (by kernel_rfl) (by kernel_rfl) (by kernel_rfl) (fun _ _ _ h => h) (Or.inl ⟨by rfl, ?hyb11_9⟩) (by assumption) ?restb11_9
         case hyb11_9 => (intro w hSw; (try dsimp only at hSw); obtain ⟨hSw, hSc⟩ := hSw; go_simp; try with_reducible rfl)
         try simp only [Act.put, List.getElem_toArray, List.getElem_cons_succ, List.getElem_cons_zero, List.setIfInBounds_toArray, List.set_cons_zero, List.set_cons_succ]
         refine wpAnyH_ready (rs := [12]) (by kernel_rfl) (by simp) ?_
         refine AllReadyH.cons rfl (fun Kc hKc => ?_) AllReadyH.nil
         go_simp
         refine hKc.out _ _ ?_ (fun hHeld => ?_)
         ·exact ⟨hgw9, hn0⟩
         clear hKc Kc
         try simp only [Act.put, List.getElem_toArray, List.getElem_cons_succ, List.getElem_cons_zero, List.setIfInBounds_toArray, List.set_cons_zero, List.set_cons_succ]
         refine wpAnyH_done (by kernel_rfl) ?_ _
         clear hk0 hk1 hkf hj0 hj1 hjf ho0 ho1 hof
         go_wp2
         go_roundw
         case rel => exact ⟨k + 1, _, by go_num, by omega, hgw9, hn0, hn1, hnf, hns, hO9⟩
         case measure => simp [intOf]; omega
        ·go_simp
         refine hKc.out _ _ ?_ (fun hHeld => ?_)
         ·exact ⟨grown_trans hgK2 (grown_of_ext _ (World.grownBy_alloc _ _ _)), (World.grownBy_alloc wK _ none).cell hk0 (by simp)⟩
         clear hKc Kc
         try simp only [Act.put, List.getElem_toArray, List.getElem_cons_succ, List.getElem_cons_zero, List.setIfInBounds_toArray, List.set_cons_zero, List.set_cons_succ]
         refine wpAnyH_ready (rs := [1]) (by kernel_rfl) (by simp) ?_
         refine AllReadyH.cons rfl (fun Kc hKc => ?_) AllReadyH.nil
         go_simp
         refine hKc.out _ _ ?_ (fun hHeld => ?_)
         ·assumption
         clear hKc Kc
         try simp only [Act.put, List.getElem_toArray, List.getElem_cons_succ, List.getElem_cons_zero, List.setIfInBounds_toArray, List.set_cons_zero, List.set_cons_succ]
         refine wpAnyH_ready (rs := [10]) (by kernel_rfl) (by simp) ?_
         refine AllReadyH.cons rfl (fun Kc hKc => ?_) AllReadyH.nil
         refine step_app_int rfl _ _ rfl wZ.heap.size (.slice mva mvn mvc) (natI ((L.take k).map (mskU P))) (q : Int) rfl wK hOK rfl rfl HU.out.2 (by omega) ?_
         intro v8 w8 hO8 hg8
         have hbk : ∀ b, (Value.slice mva mvn mvc).ownBlock = some b → wZ.heap.size ≤ b := fun b hb => (hOK.lt b hb).1
         have hj0 := hg8.cell hk0 (fun e => by have h0 : wZ.heap.size ≤ ob := hbk _ e.symm; omega)
         have hj1 := hg8.cell hk1 (fun e => by have h0 : wZ.heap.size ≤ ob := hbk _ e.symm; omega)
         have hjf : ∀ k, w8.frozen? ⟨ob, k, none⟩ = false := fun k => (World.frozen?_of_block (w := wK) (hg8.block ob (by omega) (fun e => by have := hbk _ e.symm; omega))).trans (hkf k)
         have hgw8 : wZ.grownBy w8 (some ob) := grown_own hgK2 hg8 (fun b hb hlt => by have := hbk b hb; omega)
         obtain ⟨ja, jn, jc, hj8⟩ : ∃ a n c, v8 = .slice a n c := (by rcases hO8.2 with ⟨h1, _⟩ | ⟨g, cp, _, h1, _⟩ <;> exact ⟨_, _, _, h1⟩)
         subst hj8
         have hgp := grown_put w8 ⟨ob, 1, none⟩ (.slice ja jn jc)
         have hn0 : (w8.setCell ⟨ob, 1, none⟩ (.slice ja jn jc)).cell? ⟨ob, 0, none⟩ = some (.slice (some ⟨bL, oL, none⟩) L.length sc) := (World.cell?_setCell_other _ _ _ _ (by simp)).trans hj0
         have hn1 : (w8.setCell ⟨ob, 1, none⟩ (.slice ja jn jc)).cell? ⟨ob, 1, none⟩ = some (.slice ja jn jc) := World.cell?_setCell_same _ _ _ hj1
         have hnf : ∀ k, (w8.setCell ⟨ob, 1, none⟩ (.slice ja jn jc)).frozen? ⟨ob, k, none⟩ = false := fun k => by rw [World.frozen?_setCell]; exact hjf k
         have hns : ob < (w8.setCell ⟨ob, 1, none⟩ (.slice ja jn jc)).heap.size := by have := hgp.size; have := hg8.size; omega
         have hne8 : (Value.slice ja jn jc).ownBlock = none ∨ (Value.slice ja jn jc).ownBlock ≠ some ob := .inr (fun e => by have := (hO8.lt _ e).1; omega)
         have hO9 : Own wZ.heap.size (w8.setCell ⟨ob, 1, none⟩ (.slice ja jn jc)) (.slice ja jn jc) (natI ((L.take (k + 1)).map (mskU P))) := by rw [HU.out.1]; exact Own.of (hO8.v.kept hgp hne8)
         have hgw9 := grown_trans hgw8 hgp
         refine hKc.out _ _ ?_ (fun hHeld => ?_)
         ·exact ⟨hgw8, hj0⟩
         clear hKc Kc
         try simp only [Act.put, List.getElem_toArray, List.getElem_cons_succ, List.getElem_cons_zero, List.setIfInBounds_toArray, List.set_cons_zero, List.set_cons_succ]
         refine wpAnyH_take (i := 11) (v := ?vb11_10) rfl (by kernel_rfl) (by kernel_rfl) (by kernel_rfl) (fun _ _ _ h => h) (Or.inl ⟨by rfl, ?hyb11_10⟩) (by assumption) ?restb11_10
         case hyb11_10 => (intro w hSw; (try dsimp only at hSw); obtain ⟨hSw, hSc⟩ := hSw; go_simp; try with_reducible rfl)
         try simp only [Act.put, List.getElem_toArray, List.getElem_cons_succ, List.getElem_cons_zero, List.setIfInBounds_toArray, List.set_cons_zero, List.set_cons_succ]
         refine wpAnyH_ready (rs := [12]) (by kernel_rfl) (by simp) ?_
         refine AllReadyH.cons rfl (fun Kc hKc => ?_) AllReadyH.nil
         go_simp
         refine hKc.out _ _ ?_ (fun hHeld => ?_)
         ·exact ⟨hgw9, hn0⟩
         clear hKc Kc
         try simp only [Act.put, List.getElem_toArray, List.getElem_cons_succ, List.getElem_cons_zero, List.setIfInBounds_toArray, List.set_cons_zero, List.set_cons_succ]
         refine wpAnyH_done (by kernel_rfl) ?_ _
         clear hk0 hk1 hkf hj0 hj1 hjf ho0 ho1 hof
         go_wp2
         go_roundw
         case rel => exact ⟨k + 1, _, by go_num, by omega, hgw9, hn0, hn1, hnf, hns, hO9⟩
         case measure => simp [intOf]; omega
      ·have hke : k = L.length := by omega
       have hO2 : Own wZ.heap.size wr mv (natI (L.map (mskU P))) := by rw [List.take_of_length_le (by omega)] at hO; exact hO
       have hMI : Ints (fun j => w0.heap.size ≤ j) wr mv (natI (L.map (mskU P))) := ints_of_own hO2 (by rw [natI_len, List.length_map]; omega) (fun j hj => by
        have h1 := (hO2.lt j hj).1
        have := hg0Z.size
        omega)
       obtain ⟨ma, mc, hmv, _, _⟩ := hMI.shape
       subst hmv
       have hsw0 := hgZ.size
       have hsw2 := hg2.size
       have hswF := hg2F.size
       have hszw := hgw.size
       have hLR : Rows3 (fun j => w0.heap.size ≤ j) wr (.slice (some ⟨bL, oL, none⟩) L.length sc) L := Rows3.mono hL (frame_of hg (fun j hj _ => ⟨by have := hj.2; omega, fun e => hj.1 (by simpa using e.symm)⟩))
       have hswx := HB.out.2.1
       have hrc : ∀ k, k < 2 → wr.cell? ⟨w.heap.size + 1, k, none⟩ = some (.slice none 0 0) ∧ wr.frozen? ⟨w.heap.size + 1, k, none⟩ = false := fun k hk => by
        have h1 := (grown_of_ext (some ob) hg0Z)
        have h2 := grown_trans h1 hg
        exact ⟨h2.cell (HB.out.2.2.1 k hk).1 (by simp; omega), (World.frozen?_of_block (w := w0) (h2.block (w.heap.size + 1) (by omega) (by simp; omega))).trans (HB.out.2.2.1 k hk).2⟩
       obtain ⟨hr0, hf0⟩ := hrc 0 (by omega)
       obtain ⟨hr1, hf1⟩ := hrc 1 (by omega)
       have hEw : Ext w wr := grown_own (grown_trans hgw hg0Z) hg (fun b hb hlt => by have : ob = b := (by simpa using hb); omega)
       generalize (natI (L.map (mskU P))).length = nl at *
       have HR := Lib.hid (And.intro hMI (And.intro hLR hEw)); clear hMI hLR hEw hrc hO hO2
       have hnk : ¬ (k : Int) < L.length := by omega
       have hgr : wr.grownBy ((wr.setCell ⟨w.heap.size + 1, 0, none⟩ (.slice (some ⟨bL, oL, none⟩) L.length sc)).setCell ⟨w.heap.size + 1, 1, none⟩ (.slice ma nl mc)) (some (w.heap.size + 1)) := grown_trans (grown_put wr ⟨w.heap.size + 1, 0, none⟩ _) (grown_put _ ⟨w.heap.size + 1, 1, none⟩ _)
       have hE9 := grown_own HR.out.2.2 hgr (fun b hb hlt => by have : w.heap.size + 1 = b := (by simpa using hb); omega)
       have hL9 : Rows3 (From w.heap.size) ((wr.setCell ⟨w.heap.size + 1, 0, none⟩ (.slice (some ⟨bL, oL, none⟩) L.length sc)).setCell ⟨w.heap.size + 1, 1, none⟩ (.slice ma nl mc)) (.slice (some ⟨bL, oL, none⟩) L.length sc) L := Rows3.mono HR.out.2.1 (frame_of hgr (fun j hj _ => ⟨by show w.heap.size ≤ j; omega, fun e => by have : w.heap.size + 1 = j := (by simpa using e); omega⟩))
       have hM9 : Ints (From w.heap.size) ((wr.setCell ⟨w.heap.size + 1, 0, none⟩ (.slice (some ⟨bL, oL, none⟩) L.length sc)).setCell ⟨w.heap.size + 1, 1, none⟩ (.slice ma nl mc)) (.slice ma nl mc) (natI (L.map (mskU P))) := Ints.mono HR.out.1 (frame_of hgr (fun j hj _ => ⟨by show w.heap.size ≤ j; omega, fun e => by have : w.heap.size + 1 = j := (by simpa using e); omega⟩))
       have H9 := Lib.hid (And.intro hE9 (And.intro hL9 hM9)); clear hE9 hL9 hM9 hgr
       go_wp2
       have q0 : ((wr.setCell ⟨w.heap.size + 1, 0, none⟩ (.slice (some ⟨bL, oL, none⟩) L.length sc)).setCell ⟨w.heap.size + 1, 1, none⟩ (.slice ma nl mc)).cell? ⟨w.heap.size + 1, 0, none⟩ = some (.slice (some ⟨bL, oL, none⟩) L.length sc) := (World.cell?_setCell_other _ _ _ _ (by simp)).trans (World.cell?_setCell_same _ _ _ hr0)
       have q1 : ((wr.setCell ⟨w.heap.size + 1, 0, none⟩ (.slice (some ⟨bL, oL, none⟩) L.length sc)).setCell ⟨w.heap.size + 1, 1, none⟩ (.slice ma nl mc)).cell? ⟨w.heap.size + 1, 1, none⟩ = some (.slice ma nl mc) := World.cell?_setCell_same _ _ _ ((World.cell?_setCell_other _ _ _ _ (by simp)).trans hr1)
       refine bodyPost_ret (v := .agg #[.slice (some ⟨bL, oL, none⟩) L.length sc, .slice ma nl mc]) (by simp [results, Tryz.results141, go_sem, q0, q1]) rfl ?_
       exact ⟨_, rfl, H9.out.1, _, _, rfl, L, HL.out, H9.out.2.1, H9.out.2.2⟩
end Go.Proofs.YtdklekdpdbjfiaaGreat

/- Vectors of different kinds lie in different blocks; an append that tells where the new vector lies. -/
namespace Go.Proofs.YtdklekdpdbjfiaaGreat
open Go.RowKit
theorem own_ne {B B' E E' : Nat} {w : World} {v v' : Value} {xs xs' : List Value} (h : OwnV B E w v xs) (h' : OwnV B' E' w v' xs') (hE : E ≠ E') : v.ownBlock = none ∨ v.ownBlock ≠ v'.ownBlock := by
 obtain ⟨_, ⟨rfl, _⟩ | ⟨g, cap, cur, rfl, _, hc, _⟩⟩ := h
 ·exact .inl rfl
 ·right
  obtain ⟨_, ⟨rfl, _⟩ | ⟨g', cap', cur', rfl, _, hc', _⟩⟩ := h'
  ·intro e; cases e
  ·intro e
   have e2 : g = g' := by simpa [Value.ownBlock] using e
   subst e2
   rw [hc] at hc'
   simp only [Option.some.injEq, Obj.cells.injEq] at hc'
   exact hE hc'.2.1
theorem sh3_ne {S : Nat → Prop} {B B' : Nat} {w : World} {v v' : Value} {xs : List (List (List Int))} {l : List Int} (h : Sh3 S B w v xs) (h' : Own B' w v' l) : (v.ownBlock = none ∨ v.ownBlock ≠ v'.ownBlock) ∧ (v'.ownBlock = none ∨ v'.ownBlock ≠ v.ownBlock) := by
 obtain ⟨vs, _, h2, _⟩ := h
 exact ⟨own_ne h2 h'.v (by decide), own_ne h'.v h2 (by decide)⟩
theorem own_lit0 {B H : Nat} {w : World} (hB : B ≤ w.heap.size) (hH : w.heap.size = H) : Own B (w.alloc (.cells #[] 2)) (.slice (some ⟨H, 0, none⟩) 0 0) [] := by
 subst hH; exact World.ownsRow_lit w #[] 0 hB (by decide) rfl
end Go.Proofs.YtdklekdpdbjfiaaGreat

/- (*impl.lattice).classes: the first subgroups of the classes of conjugate subgroups, and the sizes. -/
namespace Go.Proofs.YtdklekdpdbjfiaaGreat
open Go.RowKit
open Go.Maps (Keyed)
theorem und_mapSB : Tryz.prog.underlying 123 = some (.map 9 4) := by kernel_rfl
theorem makeSB (w : World) : (Instr.makeMap 123 none).run Tryz.prog w = .ok (.map (some w.heap.size)) (w.alloc (.map #[] 0)) := by kernel_rfl
def mapSB : MapK ByteArray Bool where
 t := 123
 k := 9
 e := 4
 kv s := .string s
 kl s := .string s.data.toList
 okK s := s.size ≤ maxLen
 ev x := .bool x
 el x := .bool x
 okV _ := True
 z := false
 keyed := Maps.string_keyed und_str
 und := und_mapSB
 key s hs := WideMaps.keyOf_string_mk und_str hs
 inj a c h := by
  cases a with | mk a => cases c with | mk c =>
  simp only [Lit.string.injEq] at h
  rw [Array.toList_inj.1 h]
 isKey _ := trivial
 elem x _ := plainElem_bool und_boolL x
 inv v x ps h := by
  unfold plainElem at h
  rw [und_boolL] at h
  cases v <;> simp at h
  rw [h.1]
 zero w := by kernel_rfl
 okz := trivial
theorem allEl_len (P : Pr) : (allEl P).length = (ordP P).toNat := by unfold allEl; rw [List.length_map, List.length_range]
theorem gt_allEl {P : Pr} {t : Nat} (h : t < (ordP P).toNat) : gt (allEl P) t = elAt P (t : Int) := by
 unfold allEl
 rw [gt_map _ _ _ (by rw [List.length_range]; exact h)]
 congr 2
 simp [gt, h]
def keyIn (S : List (List (List Int))) (s : ByteArray) : Bool := S.any (fun v => decide (keyS v = s))
theorem keyIn_iff {P : Pr} (hP : Valid P) {S : List (List (List Int))} (hS : ∀ v ∈ S, SubB P v) {u : List (List Int)} (hu : SubB P u) : keyIn S (keyS u) = decide (u ∈ S) := by
 rw [Bool.eq_iff_iff, decide_eq_true_iff]
 unfold keyIn
 rw [List.any_eq_true]
 constructor
 ·rintro ⟨v, hv, h⟩
  rw [← subB_key hP (hS v hv) hu (of_decide_eq_true h)]; exact hv
 ·intro h; exact ⟨u, h, by simp⟩
theorem keyIn_app (S : List (List (List Int))) (u : List (List Int)) (s : ByteArray) : (if s = keyS u then true else keyIn S s) = keyIn (S ++ [u]) s := by
 unfold keyIn
 rw [List.any_append, List.any_cons, List.any_nil, Bool.or_false]
 by_cases h : s = keyS u
 ·rw [if_pos h, h]; simp
 ·rw [if_neg h]
  have : decide (keyS u = s) = false := by simpa using fun e => h e.symm
  rw [this, Bool.or_false]
theorem subB_bytes {P : Pr} (G : Grp P) {u : List (List Int)} (hu : SubB P u) : (keyS u).size ≤ maxLen ∧ (∀ x ∈ u, ∀ e ∈ x, 0 ≤ e ∧ e < 256) ∧ (∀ x ∈ u, x.length ≤ 1000) ∧ u.length ≤ 100 := by
 have hn6 := G.v.n6
 have hul := G.sub_len hu
 have hkl := keyL_len u 6 (fun z hz => by rw [(hu.1 z hz).1]; exact hn6)
 have hks := keyS_size u
 refine ⟨by unfold maxLen; have : (6 + 1) * u.length ≤ 100 := (by omega); omega, fun z hz => (vec_bytes G.v (hu.1 z hz)).2, fun z hz => by rw [(hu.1 z hz).1]; omega, by omega⟩
set_option maxRecDepth 100000 in
set_option maxHeartbeats 8000000 in
theorem classes_ok (P : Pr) (G : Grp P) (h32 : ordP P ≤ 32) (L : List (List (List Int))) (hL : LatL P L) (w : World) (B lb : Nat) (p lv mv : Value) (Sp : Nat → Prop) (hX : Box3 w lb p lv mv) (hp : PresP Sp w p P)
  (hLv : SlO (fun F w u (x : List (List Int)) => RowsD F w u x) 23 B w lv L) (hB : B ≤ w.heap.size) :
  Calls Tryz.prog 82 #[.pointer (some ⟨lb, 0, none⟩)] w (Ret w fun w' v => ∃ a n c za zn zc, v = .tuple #[.slice a n c, .slice za zn zc] ∧
   SlOA (fun F w u (x : List (List Int)) => RowsD F w u x) 23 B (fun b => (Value.slice za zn zc).ownBlock = some b) w' (.slice a n c) (clS P L L.length).firsts ∧ Own w.heap.size w' (.slice za zn zc) (natI (clS P L L.length).sizes)) := by
 have hP := G.v
 have hn6 := hP.n6
 have hlen := G.lat_len h32 hL
 obtain ⟨pb, po, rfl⟩ := hp.shape
 obtain ⟨vs, Gb, hvl, hOv, hGb, hd, hE⟩ := hLv
 obtain ⟨la, lc, hlv⟩ : ∃ a c, lv = .slice a L.length c := by
  rcases hOv.form with ⟨e1, e2⟩ | ⟨g, cp, e1, _⟩
  ·have : L.length = 0 := by rw [← hvl, e2]; rfl
   exact ⟨none, 0, by rw [e1, this]⟩
  ·exact ⟨_, _, by rw [e1, hvl]⟩
 subst hlv
 have hsub : ∀ u ∈ L, SubB P u := fun u hu => (hL.2 u).1 hu
 have hbx : ∀ w', Ext w w' → w'.cell? ⟨lb, 0, none⟩ = some (.pointer (some ⟨pb, po, none⟩)) := fun w' h => (hX.ext h).2.1
 obtain ⟨hx0, hx1, hx2, hx3, hx4⟩ := id hX
 have hpos := hP.ordP_pos
 obtain ⟨N, hN⟩ : ∃ N, N = (ordP P).toNat := ⟨_, rfl⟩
 have hN32 : N ≤ 32 := by omega
 have hMs := MapAt.made mapSB w
 have hmk := makeSB w
 have hgm : Ext w (w.alloc (.map #[] 0)) := World.grownBy_alloc _ _ _
 have hMs' : MapAt mapSB (w.alloc (.map #[] 0)) w.heap.size (keyIn []) 0 := hMs
 have HL := Lib.hid (And.intro hsub (And.intro hbx (And.intro hN (And.intro hL hX)))); clear hsub hbx hN hL hX
 have HM := Lib.hid (And.intro hgm hMs'); clear hgm hMs' hMs hpos
 go_enter Tryz.func82, Tryz.ntmps82
 go_wp2
 clear hx1 hx2 hx3 hx4 hmk
 go_loopw [4, 5, 19] (fun ov zv iv wr => ∃ (k : Nat) (v4 v5 : Value), v4 = ov ∧ v5 = zv ∧ iv = .int .i64 k ∧ k ≤ L.length ∧ Ext w wr ∧
  SlOA (fun F w u (x : List (List Int)) => RowsD F w u x) 23 B (fun b => b = w.heap.size ∨ v5.ownBlock = some b ∨ ∃ j, k ≤ j ∧ j < L.length ∧ Gb j b) wr v4 (clS P L k).firsts ∧
  Own w.heap.size wr v5 (natI (clS P L k).sizes) ∧ MapAt mapSB wr w.heap.size (keyIn (clS P L k).seen) (clS P L k).seen.length ∧ Hid ((∀ b, v4.ownBlock = some b → w.heap.size ≤ b) ∧ v5.ownBlock ≠ some w.heap.size)) (fun _ _ iv _ => L.length - (intOf iv).toNat)
 case atStart => exact ⟨0, _, _, rfl, rfl, rfl, by omega, HM.out.1, ⟨[], fun _ _ => False, rfl, World.ownsRow_nil _ _ _ _, by simp, by simp, by simp [clS], by simp, by simp [Value.ownBlock]⟩, World.ownsRow_nil _ _ _ _, HM.out.2, Lib.hid (by simp [Value.ownBlock])⟩
 case round =>
  clear HM
  obtain ⟨k, v4, v5, rfl, rfl, rfl, hk, hg, hO, hZ, hM, hob⟩ := hrel
  have hseen := G.clS_seen HL.out.1 k hk
  have hsl := G.seen_len h32 hseen
  obtain ⟨hfl, hzl⟩ := clS_len P L k
  have hyes := @clS_yes P L k
  have hno := @clS_no P L k
  obtain ⟨st, hst⟩ : ∃ st, st = clS P L k := ⟨_, rfl⟩
  rw [← hst] at hO hZ hM hseen hfl hzl hsl hyes hno
  have HCL := Lib.hid (And.intro hyes (And.intro hno hst)); clear hyes hno hst
  by_cases hlt : k < L.length
  ·have hlt' : (k : Int) < L.length := by omega
   obtain ⟨gl, hla⟩ : ∃ gl, la = some ⟨gl, 0, none⟩ := by
    rcases hOv.form with ⟨e1, e2⟩ | ⟨g, cp, e1, _⟩
    ·have : L.length = 0 := by rw [← hvl, e2]; rfl
     omega
    ·simp only [Value.slice.injEq] at e1; exact ⟨g, e1.1⟩
   subst hla
   have hc := hg.cell (hOv.cell k (by omega)) (by simp)
   have hEk := hE k hlt
   obtain ⟨ua, uc, hvu, _, _⟩ := SlD.shape hEk
   rw [hvu] at hc hEk
   have huB := HL.out.1 _ (gt_mem hlt)
   have huR : RowsD (Gb k) wr (.slice ua (gt L k).length uc) (gt L k) := rdRows.mono hEk (fun b hb hlt => ⟨hb, Nat.lt_of_lt_of_le hlt hg.size, hg.block b hlt (by simp)⟩)
   obtain ⟨hb1, hb2, hb3, hb4⟩ := subB_bytes G huB
   have hkey := keyOf_ok (gt L k) wr _ _ (RowsD.rows huR) hb2 hb3 hb4
   have hlook0 : ∀ w', Ext wr w' → (Instr.lookup 123 (.map (some w.heap.size)) (.string (keyS (gt L k))) false).run Tryz.prog w' = .ok (.bool (keyIn st.seen (keyS (gt L k)))) w' := fun w' h => (hM.ext h).look _ hb1
   have hki := keyIn_iff hP hseen.sub huB
   obtain ⟨u, hu⟩ : ∃ u, u = gt L k := ⟨_, rfl⟩
   rw [← hu] at hc huR huB hb1 hb2 hb3 hb4 hkey hlook0 hki
   obtain ⟨s, hs⟩ : ∃ s, s = keyS u := ⟨_, rfl⟩
   rw [← hs] at hkey hlook0 hki
   obtain ⟨r, hr⟩ : ∃ r, r = keyIn st.seen s := ⟨_, rfl⟩
   rw [← hr] at hlook0 hki
   have HU := Lib.hid (And.intro hu (And.intro huB (And.intro hki (And.intro hseen hEk)))); clear hu huB hki hs hr hseen hEk hb1 hb2 hb3 hb4 hvu
   go_wp2_with fail
   refine Calls.mono hkey ?_
   rintro e7 w7 ⟨v7, rfl, hg7, rfl⟩
   clear hkey hc
   have hlook := hlook0 w7 hg7
   clear hlook0
   have hg07 := grown_trans hg hg7
   have hO7 := hO.ext rdRows hg7
   have hZ7 := hZ.ext0 hg7
   have hM7 := hM.ext hg7
   clear hO hZ hM
   cases r with
   | true =>
    have hin : u ∈ st.seen := of_decide_eq_true HU.out.2.2.1.symm
    have hnx := HCL.out.2.1 (by rw [← HU.out.1]; exact hin)
    have hO8 := hO7.less (A' := fun b => b = w.heap.size ∨ v5.ownBlock = some b ∨ ∃ j, k + 1 ≤ j ∧ j < L.length ∧ Gb j b) (fun b h => h.imp id (fun h => h.imp id (fun ⟨j, h1, h2, h3⟩ => ⟨j, by omega, h2, h3⟩)))
    have HX := Lib.hid (And.intro hnx (And.intro hO8 (And.intro hZ7 hM7))); clear hin hnx hO7 hO8 hZ7 hM7
    go_wp2
    clear hlook
    go_roundw
    case rel => exact ⟨k + 1, v4, v5, rfl, rfl, by go_num, by omega, hg07, by rw [HX.out.1]; exact HX.out.2.1, by rw [HX.out.1]; exact HX.out.2.2.1, by rw [HX.out.1]; exact HX.out.2.2.2, hob⟩
    case measure => simp [intOf]; omega
   | false =>
    have hin : ¬ u ∈ st.seen := fun h => by
     have := HU.out.2.2.1
     rw [decide_eq_true h] at this; cases this
    have hnx := HCL.out.1 (by rw [← HU.out.1]; exact hin)
    have hb0 := HL.out.2.1 w7 hg07
    have hall := allElements_ok P hP w7 _ Sp (hp.ext hg07)
    have HX := Lib.hid (And.intro hnx (And.intro hO7 (And.intro hZ7 (And.intro hM7 huR)))); clear hin hnx hO7 hZ7 hM7 huR
    go_wp2_with fail
    clear hlook hb0
    refine Calls.mono hall ?_
    rintro e8 w8 ⟨v8, rfl, hg8, hA⟩
    clear hall
    have hg08 := grown_trans hg07 hg8
    have hg78 := grown_trans hg7 hg8
    have hAl : (allEl P).length = N := by rw [allEl_len, HL.out.2.2.1]
    have hAR := RowsD.rows (hA.toD (by omega))
    obtain ⟨ea, ec, hev, _, _⟩ := Sl.shape hAR
    subst hev
    rw [hAl]
    have hAR' : Rows2 (From w7.heap.size) w8 (.slice ea N ec) (allEl P) := by rw [← hAl]; exact hAR
    have HA := Lib.hid (And.intro hAl hAR'); clear hAl hAR hAR' hA
    have hmb7 := HX.out.2.2.2.1.lt
    have hM8 := HX.out.2.2.2.1.ext hg8
    go_wp2
    go_loopw [9, 33] (fun cv tv wr => ∃ t : Nat, cv = .int .i64 (((cnS P u st.seen t).2 : Nat) : Int) ∧ tv = .int .i64 t ∧ t ≤ N ∧ w8.grownBy wr (some w.heap.size) ∧ MapAt mapSB wr w.heap.size (keyIn (cnS P u st.seen t).1) (cnS P u st.seen t).1.length) (fun _ tv _ => N - (intOf tv).toNat)
    case atStart => exact ⟨0, rfl, by go_num, by omega, grown_refl _ _, hM8⟩
    case round =>
     clear hM8
     obtain ⟨t, rfl, rfl, ht, hgt, hMt⟩ := hrel
     have hgwr : Ext w wr := grown_own hg08 hgt (fun b hb hlt => by cases hb; omega)
     have hcl := cnS_le P u st.seen t
     have hsn := G.cnS_seen HU.out.2.1 HU.out.2.2.2.1 t (by rw [← HL.out.2.2.1]; exact ht)
     have hsnl := G.seen_len h32 hsn
     have hyes := @cnS_yes P u st.seen t
     have hno := @cnS_no P u st.seen t
     obtain ⟨cn, hcn⟩ : ∃ cn, cn = cnS P u st.seen t := ⟨_, rfl⟩
     rw [← hcn] at hMt hcl hsn hsnl hyes hno
     rw [← hcn]
     have HY := Lib.hid (And.intro hyes (And.intro hno (And.intro hcn (And.intro hsn hcl)))); clear hyes hno hsn
     by_cases htl : t < N
     ·have htl' : (t : Int) < N := by omega
      have hXV : Vec P.orders (elAt P (t : Int)) := G.elAtV (by rw [← HL.out.2.2.1]; exact htl)
      have hAr : Rows2 Any wr (.slice ea N ec) (allEl P) := Rows2.mono HA.out.2 (fun j hj hlt => ⟨trivial, Nat.lt_of_lt_of_le hlt hgt.size, hgt.block j hlt (fun e => by
       have h1 : w7.heap.size ≤ j := hj
       cases e; omega)⟩)
      obtain ⟨bt, ot, a2, cap2, hbt, _, _, hct, hrt⟩ := Rows2.at hAr t (by rw [HA.out.1]; exact htl)
      cases hbt
      rw [gt_allEl (by rw [← HL.out.2.2.1]; exact htl)] at hct hrt
      have huW : Rows2 (Gb k) wr (.slice ua u.length uc) u := RowsD.rows (rdRows.mono HX.out.2.2.2.2 (fun j hj hlt => ⟨hj, Nat.lt_of_lt_of_le hlt (Nat.le_trans hg78.size hgt.size), (hgt.block j (Nat.lt_of_lt_of_le hlt hg78.size) (fun e => by
       have := (hGb k j (by assumption) hj).2.2
       cases e; omega)).trans (hg78.block j hlt (by simp))⟩))
      have hb0 := HL.out.2.1 wr hgwr
      have hul := G.sub_len HU.out.2.1
      have hcj := conjugateSubgroup_ok P G wr _ _ _ u (elAt P (t : Int)) Sp _ _ (hp.ext hgwr) huW HU.out.2.1.1 (by omega) hrt hXV
      have hcB := G.cjU_subB HU.out.2.1 hXV
      have HXV := Lib.hid hXV
      obtain ⟨X, hXe⟩ : ∃ X, X = elAt P (t : Int) := ⟨_, rfl⟩
      rw [← hXe] at hct hcj hcB
      obtain ⟨cj, hcje⟩ : ∃ cj, cj = cjU P u X := ⟨_, rfl⟩
      have hcje' : cseq P (genP P (fun z => z ∈ conjL P u X)) = cj := by rw [hcje]; rfl
      rw [hcje'] at hcj
      rw [← hcje] at hcB
      have HCJ := Lib.hid (And.intro hXe hcje); clear hXe hcje hcje' hXV hrt huW hAr
      go_wp2_with fail
      clear hct hb0
      refine Calls.mono hcj ?_
      rintro e9 w9 ⟨v9, rfl, hg9, hR9⟩
      clear hcj
      obtain ⟨hb1, hb2, hb3, hb4⟩ := subB_bytes G hcB
      have hRR := RowsD.rows (hR9.toD (by omega))
      obtain ⟨ja, jc, hjv, _, _⟩ := Sl.shape hRR
      subst hjv
      have hkey := keyOf_ok cj w9 _ _ hRR hb2 hb3 hb4
      have hM9 := hMt.ext hg9
      have hlook0 : ∀ w', Ext w9 w' → (Instr.lookup 123 (.map (some w.heap.size)) (.string (keyS cj)) false).run Tryz.prog w' = .ok (.bool (keyIn cn.1 (keyS cj))) w' := fun w' h => (hM9.ext h).look _ hb1
      have hki := keyIn_iff hP HY.out.2.2.2.1.sub hcB
      have happ := keyIn_app cn.1 cj
      obtain ⟨s2, hs2⟩ : ∃ s2, s2 = keyS cj := ⟨_, rfl⟩
      rw [← hs2] at hkey hlook0 hki happ hb1
      obtain ⟨r, hr⟩ : ∃ r, r = keyIn cn.1 s2 := ⟨_, rfl⟩
      rw [← hr] at hlook0 hki
      have HK := Lib.hid (And.intro hki (And.intro happ hb1)); clear hki happ hs2 hr hb1 hb2 hb3 hb4 hRR hR9 hcB
      go_wp2_with fail
      refine Calls.mono hkey ?_
      rintro eA wA ⟨vA, rfl, hgA, rfl⟩
      clear hkey
      have hlook := hlook0 wA hgA
      clear hlook0
      have hMA := hM9.ext hgA
      have hgtA : w8.grownBy wA (some w.heap.size) := grown_trans hgt (grown_of_ext _ (grown_trans hg9 hgA))
      clear hMt hM9
      cases r with
      | true =>
       have hin : cj ∈ cn.1 := of_decide_eq_true HK.out.1.symm
       have hnx := HY.out.2.1 (by rw [← HCJ.out.1, ← HCJ.out.2]; exact hin)
       have HX2 := Lib.hid (And.intro hnx hMA); clear hin hnx hMA
       go_wp2
       clear hlook
       go_roundw
       case rel => exact ⟨t + 1, by rw [HX2.out.1, HY.out.2.2.1], by go_num, by omega, hgtA, by rw [HX2.out.1]; exact HX2.out.2⟩
       case measure => simp [intOf]; omega
      | false =>
       have hin : ¬ cj ∈ cn.1 := fun h => by
        have := HK.out.1
        rw [decide_eq_true h] at this; cases this
       have hnx := HY.out.1 (by rw [← HCJ.out.1, ← HCJ.out.2]; exact hin)
       rw [← HCJ.out.1, ← HCJ.out.2] at hnx
       obtain ⟨wU, hrun, hMU, hgU⟩ := hMA.update s2 HK.out.2.2 true trivial (by omega)
       have hrun2 : (Instr.mapUpdate 123 (.map (some w.heap.size)) (.string s2) (.bool true)).run Tryz.prog wA = .ok () wU := hrun
       have hMU2 : MapAt mapSB wU w.heap.size (keyIn (cn.1 ++ [cj])) (cn.1 ++ [cj]).length := by
        rw [List.length_append, List.length_singleton]
        exact hMU.congr (fun s => HK.out.2.1 s)
       have hgtU := grown_trans hgtA hgU
       have hw1 : wrap64 ((cn.2 : Nat) + 1 : Int) = ((cn.2 + 1 : Nat) : Int) := by rw [IntWalk.wrap64_in _ (by omega)]; omega
       have HX2 := Lib.hid (And.intro hnx hMU2); clear hin hnx hMA hMU hMU2 hrun hgU
       go_wp2
       clear hlook hrun2
       go_roundw
       case rel => exact ⟨t + 1, by rw [HX2.out.1, ← HY.out.2.2.1]; exact congrArg (Value.int .i64) hw1, by go_num, by omega, hgtU, by rw [HX2.out.1]; exact HX2.out.2⟩
       case measure => simp [intOf]; omega
     ·have hte : t = N := by omega
      have hnx := HX.out.1
      rw [← HU.out.1, ← HL.out.2.2.1, ← hte, ← hcn] at hnx
      have hnl : ¬ (t : Int) < N := by omega
      have hcl2 : cn.2 ≤ 32 := by omega
      have hO8 := (HX.out.2.1.ext rdRows hg8).kept rdRows hgt (.inl rfl)
      have hZ8 := (HX.out.2.2.1.ext0 hg8).ext hgt (by
       rcases hz : v5.ownBlock with _ | b
       ·exact .inl rfl
       ·exact .inr (fun e => hob.out.2 (by rw [hz]; exact e)))
      have hv5 : ∀ b, v5.ownBlock = some b → w.heap.size ≤ b ∧ b < wr.heap.size := fun b hb => hZ8.lt b hb
      have hmbr := hMt.lt
      have hav := hO8.avoids
      have hO9 := hO8.less (A' := fun b => (b = w.heap.size ∨ v5.ownBlock = some b ∨ ∃ j, k ≤ j ∧ j < L.length ∧ Gb j b) ∧ b < wr.heap.size) (fun b h => h.1)
      have huA : RowsD (Gb k) wr (.slice ua u.length uc) u := rdRows.mono HX.out.2.2.2.2 (fun j hj hlt => ⟨hj, Nat.lt_of_lt_of_le hlt (Nat.le_trans hg78.size hgt.size), (hgt.block j (Nat.lt_of_lt_of_le hlt hg78.size) (fun e => by
       have := (hGb k j (by assumption) hj).2.2
       cases e; omega)).trans (hg78.block j hlt (by simp))⟩)
      have hF1 : ∀ b, Gb k b → b < wr.heap.size → ((b = w.heap.size ∨ v5.ownBlock = some b ∨ ∃ j, k ≤ j ∧ j < L.length ∧ Gb j b) ∧ b < wr.heap.size) ∧ B ≤ b := fun b hb hlt2 => ⟨⟨.inr (.inr ⟨k, by omega, by assumption, hb⟩), hlt2⟩, (hGb k b (by assumption) hb).1⟩
      have hF2 : ∀ b, (b = w.heap.size ∨ v5.ownBlock = some b ∨ ∃ j, k + 1 ≤ j ∧ j < L.length ∧ Gb j b) → ((b = w.heap.size ∨ v5.ownBlock = some b ∨ ∃ j, k ≤ j ∧ j < L.length ∧ Gb j b) ∧ b < wr.heap.size) ∧ ¬ Gb k b := fun b h => by
       have hgk : Gb k b → b < w.heap.size := fun h => (hGb k b (by assumption) h).2.2
       rcases h with h | h | ⟨j, h1, h2, h3⟩
       ·exact ⟨⟨.inl h, by omega⟩, fun h4 => by have := hgk h4; omega⟩
       ·have := hv5 b h
        exact ⟨⟨.inr (.inl h), this.2⟩, fun h4 => by have := hgk h4; omega⟩
       ·have h5 := (hGb j b h2 h3).2.2
        have h6 := hgwr.size
        exact ⟨⟨.inr (.inr ⟨j, by omega, h2, h3⟩), by omega⟩, fun h4 => by have := hd j k b h2 (by assumption) h3 h4; omega⟩
      have hn1 : st.firsts.length ≤ 1000000 := by omega
      have hzn1 : (natI st.sizes).length ≤ 1000000 := by rw [natI_len]; omega
      have happ := natI_app st.sizes cn.2
      have HX2 := Lib.hid (And.intro hnx (And.intro hO9 (And.intro hZ8 (And.intro hMt (And.intro huA (And.intro hF1 (And.intro hF2 (And.intro hzn1 happ)))))))); clear hnx hO8 hO9 hZ8 hMt huA hF1 hF2 hzn1 happ hcn hte
      go_wp2_with (first
       | (at_builtin; refine wp_app_take3 rfl _ _ rfl B (fun b => (b = w.heap.size ∨ v5.ownBlock = some b ∨ ∃ j, k ≤ j ∧ j < L.length ∧ Gb j b) ∧ b < wr.heap.size) (fun b => b = w.heap.size ∨ v5.ownBlock = some b ∨ ∃ j, k + 1 ≤ j ∧ j < L.length ∧ Gb j b) (Gb k) wr v4 _ st.firsts u rfl HX2.out.2.1 HX2.out.2.2.2.2.1 HX2.out.2.2.2.2.2.1 HX2.out.2.2.2.2.2.2.1 (fun b hb => hb.2) rfl rfl hn1 (by have := hgwr.size; omega) ?_; intro vB wB hOB hgB hkB
          have hZB := HX2.out.2.2.1.ext hgB (by
           rcases hz : v5.ownBlock with _ | b
           ·exact .inl rfl
           ·exact .inr (fun e => (hav b e.symm).1 (.inr (.inl hz))))
          have hMB := HX2.out.2.2.2.1.kept hgB (fun e => (hav _ e.symm).1 (.inl rfl))
          have HX3 := Lib.hid (And.intro hOB (And.intro hZB hMB)); clear hOB hZB hMB)
       | (at_builtin; refine wp_app_intA rfl _ _ rfl w.heap.size _ (natI st.sizes) ((cn.2 : Nat) : Int) rfl wB HX3.out.2.1 rfl rfl HX2.out.2.2.2.2.2.2.2.1 (Nat.le_trans hgwr.size hgB.size) ?_; intro vC wC hOC hgC hkC)
       | fail)
      have hgC : wB.grownBy wC v5.ownBlock := hgC
      have hgwB : Ext w wB := grown_own hgwr hgB (fun b hb hlt => by have := hob.out.1 b hb; omega)
      have hgwC : Ext w wC := grown_own hgwB hgC (fun b hb hlt => by have := (HX3.out.2.1.lt b hb).1; omega)
      have hLB := HX3.out.1.more (A' := fun b => b = w.heap.size ∨ (v5.ownBlock = some b ∨ vC.ownBlock = some b) ∨ ∃ j, k + 1 ≤ j ∧ j < L.length ∧ Gb j b) (fun b h => by
       rcases h with h | (h | h) | h
       ·exact .inl (.inl h)
       ·exact .inl (.inr (.inl h))
       ·rcases hkC b h with h | h
        ·exact .inl (.inr (.inl h))
        ·exact .inr h
       ·exact .inl (.inr (.inr h)))
      have hLC : SlOA (fun F w u (x : List (List Int)) => RowsD F w u x) 23 B (fun b => b = w.heap.size ∨ (v5.ownBlock = some b ∨ vC.ownBlock = some b) ∨ ∃ j, k + 1 ≤ j ∧ j < L.length ∧ Gb j b) wC vB (st.firsts ++ [u]) := by
       rcases hz : v5.ownBlock with _ | b
       ·rw [hz] at hgC hLB
        exact hLB.ext rdRows hgC
       ·rw [hz] at hgC hLB
        exact hLB.kept rdRows hgC (.inr (.inl (.inl rfl)))
      have hLC2 := hLC.less (A' := fun b => b = w.heap.size ∨ vC.ownBlock = some b ∨ ∃ j, k + 1 ≤ j ∧ j < L.length ∧ Gb j b) (fun b h => h.imp id (fun h => h.imp .inr id))
      have hMC := HX3.out.2.2.kept hgC (fun e => hob.out.2 e.symm)
      have hmbB := Nat.lt_of_lt_of_le hmbr hgB.size
      have hobC : (∀ b, vB.ownBlock = some b → w.heap.size ≤ b) ∧ vC.ownBlock ≠ some w.heap.size := ⟨fun b hb => by
       rcases hkB with h | h
       ·exact hob.out.1 b (by rw [← h]; exact hb)
       ·have := h b hb; have := hgwr.size; omega, fun e => by
       rcases hkC _ e with h | h
       ·exact hob.out.2 h
       ·omega⟩
      have HC := Lib.hid (And.intro hobC (And.intro hLC2 hMC)); clear hobC hLC hLC2 hMC hLB
      go_roundw
      case rel => exact ⟨k + 1, vB, vC, rfl, rfl, by go_num, by omega, hgwC, by rw [HX2.out.1]; exact HC.out.2.1, by rw [HX2.out.1, HX2.out.2.2.2.2.2.2.2.2]; exact hOC, by rw [HX2.out.1]; exact HC.out.2.2, Lib.hid HC.out.1⟩
      case measure => simp [intOf]; omega
  ·have hke : k = L.length := by omega
   have hnl : ¬ (k : Int) < L.length := by omega
   have hst := HCL.out.2.2
   rw [hke] at hst
   have hO2 := hO.less (A' := fun b => v5.ownBlock = some b) (fun b h => .inr (.inl h))
   rw [hst] at hO2 hZ
   obtain ⟨fa, fn, fc, hfv⟩ : ∃ a n c, v4 = .slice a n c := by
    obtain ⟨a, c, h, _⟩ := SlD.shape (hO.o.toD (by omega)); exact ⟨_, _, _, h⟩
   obtain ⟨za, zn, zc, hzv⟩ : ∃ a n c, v5 = .slice a n c := by
    rcases hZ.v.form with ⟨h1, _⟩ | ⟨g, cp, h1, _⟩ <;> exact ⟨_, _, _, h1⟩
   subst hfv hzv
   have HE := Lib.hid (And.intro hO2 hZ); clear hO hO2 hZ hM hst hke
   go_wp2
   refine bodyPost_ret (v := .tuple #[.slice fa fn fc, .slice za zn zc]) (by simp [results, Tryz.results82, go_sem]) rfl ?_
   exact ⟨_, rfl, hg, _, _, _, _, _, _, rfl, HE.out.1, HE.out.2⟩
end Go.Proofs.YtdklekdpdbjfiaaGreat
