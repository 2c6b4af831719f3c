/-
  impl.sameRows, impl.areSubgroups.
  Plain: a sequence as a table by depths, as the reference lays it; coset representatives, sifting and the reduced sequence by such a table.
  The reference's power with any exponent: spec.l10Pow.
  The reference's tables by depths: spec.l02Lead, l12Depth, l12Table; how a table reads.
  The reference's reduced sequence: spec.l12Full.
  The reference's sifting: spec.l12Strip.
  Plain: generated subgroups of sets; intersections.
  The reference's closure: spec.l01Own2, l01Inv, l10Comm, l12Close.
-/
import Derived.Test.YtmjkoejegfjbbaaGreatC4
import Derived.Test.YtmjkoejegfjbbaaGreatC5
import Derived.Test.YtmjkoejegfjbbaaGreatC6
import Derived.Test.YtmjkoejegfjbbaaGreatC8
import Derived.Test.YtmjkoejegfjbbaaGreatC9
namespace Go.Proofs.YtmjkoejegfjbbaaGreat
open Go.RowKit
set_option maxHeartbeats 1000000 in
theorem eqRows_ok (v1 v2 : Value) (A B : List (List Int)) (w : World) (S1 S2 : Nat → Prop) (h1 : Rows2 S1 w v1 A) (h2 : Rows2 S2 w v2 B) :
  Calls Tryz.prog 257 #[v1, v2, .func (.func 242) #[] #[]] w (Ret w fun _ v => v = .bool (eqB A B)) := by
 obtain ⟨a1, cap1, rfl, _, _⟩ := Sl.shape h1
 obtain ⟨a2, cap2, rfl, _, _⟩ := Sl.shape h2
 by_cases hl : A.length = B.length
 ·have HL := Lib.hid hl
  have hb0 : ((A.length : Int) != (B.length : Int)) = false := by simp [hl]
  clear hl
  go_enter Tryz.func257, Tryz.ntmps257
  go_wp2
  go_loopw [17] (fun iv wr => ∃ k : Nat, iv = .int .i64 k ∧ k ≤ A.length ∧ Ext w wr ∧ Hid (∀ j, j < k → gt A j = gt B j)) (fun iv _ => A.length - (intOf iv).toNat)
  case atStart => exact ⟨0, rfl, by omega, Ext.refl _, Lib.hid (fun j h => by omega)⟩
  case round =>
   obtain ⟨k, rfl, hk, hg, hE⟩ := hrel
   clear hb0
   by_cases hlt : k < A.length
   ·have hlt' : (k : Int) < A.length := by omega
    have hlt2 : (k : Int) < B.length := by have := HL.out; omega
    obtain ⟨b1, o1, c1, d1, rfl, _, _, hc1, hi1⟩ := Rows2.at (Rows2.ext h1 hg) k hlt
    obtain ⟨b2, o2, c2, d2, rfl, _, _, hc2, hi2⟩ := Rows2.at (Rows2.ext h2 hg) k (by omega)
    have hk0 : (0 : Int) ≤ k := by omega
    go_wp2_with fail
    refine Calls.mono (sEqual_ok _ _ (gt A k) (gt B k) wr _ _ hi1 hi2) ?_
    rintro eE wE ⟨vE, rfl, hgE, rfl⟩
    clear hc1 hc2
    cases hq : eqB (gt A k) (gt B k) with
    | true =>
     have HQ := Lib.hid hq; clear hq
     go_wp2
     go_roundw
     case rel => exact ⟨k + 1, by go_num, by omega, grown_trans hg hgE, Lib.hid (fun j hj => by
      rcases Nat.lt_succ_iff_lt_or_eq.1 hj with h | h
      ·exact hE.out j h
      ·rw [h]; exact eqB_true.1 HQ.out)⟩
     case measure => simp [intOf]; omega
    | false =>
     have hf := eqB_false_at (eqB_false.1 hq)
     have HQ := Lib.hid hf; clear hq hf
     go_wp2
     go_ret
     exact ⟨_, rfl, grown_trans hg hgE, by rw [HQ.out]; rfl⟩
   ·have he : eqB A B = true := eqB_true.2 (ext_gt HL.out (fun i hi => hE.out i (by omega)))
    have HE := Lib.hid he; clear he
    go_wp2
    go_ret
    exact ⟨_, rfl, hg, by rw [HE.out]; rfl⟩
 ·have he : eqB A B = false := eqB_false.2 (fun e => hl (by rw [e]))
  have HE := Lib.hid he; clear he
  have hb0 : ((A.length : Int) != (B.length : Int)) = true := by simp; omega
  clear hl
  go_enter Tryz.func257, Tryz.ntmps257
  go_wp2
  go_ret
  exact ⟨_, rfl, Ext.refl _, by rw [HE.out]; rfl⟩
theorem sameRows_ok (v1 v2 : Value) (A B : List (List Int)) (w : World) (S1 S2 : Nat → Prop) (h1 : Rows2 S1 w v1 A) (h2 : Rows2 S2 w v2 B) :
  Calls Tryz.prog 120 #[v1, v2] w (Ret w fun _ v => v = .bool (eqB A B)) := by
 have hcon := eqRows_ok v1 v2 A B w S1 S2 h1 h2
 obtain ⟨a1, cap1, rfl, _, _⟩ := Sl.shape h1
 obtain ⟨a2, cap2, rfl, _, _⟩ := Sl.shape h2
 go_enter Tryz.func120, Tryz.ntmps120
 go_wp2_with fail
 refine Calls.mono hcon ?_
 rintro e1 w1 ⟨v, rfl, hg, rfl⟩
 clear hcon
 go_wp2
 go_ret
 exact ⟨_, rfl, hg, rfl⟩
def SubB (P : Pr) (u : List (List Int)) : Prop := (∀ x ∈ u, Vec P.orders x) ∧ u = cseq P (genP P (fun x => x ∈ u))
theorem Grp.cseq_len {P : Pr} (G : Grp P) {H : List Int → Prop} (S : Sub P H) : (cseq P H).length ≤ P.orders.length := by
 obtain ⟨r, _, h⟩ := G.cseq_spec S
 rw [h, sq_all]; exact sq_len _ _ _
theorem Grp.sub_len {P : Pr} (G : Grp P) {u : List (List Int)} (h : SubB P u) : u.length ≤ P.orders.length := by
 rw [h.2]; exact G.cseq_len (G.genP_sub h.1)
set_option maxRecDepth 100000 in
set_option maxHeartbeats 2000000 in
theorem areSubgroups_ok (P : Pr) (w : World) (p lv : Value) (us : List (List (List Int))) (Sp Sr : Nat → Prop) (hp : PresP Sp w p P) (hl : Rows3 Sr w lv us) :
  Calls Tryz.prog 169 #[p, lv] w (Ret w fun _ v => ∃ r : Bool, v = .bool r ∧ (r = true ↔ rconsB P = true ∧ ∀ u ∈ us, SubB P u)) := by
 obtain ⟨pb, po, rfl⟩ := hp.shape
 obtain ⟨al, capl, rfl, _, _⟩ := Sl.shape hl
 obtain ⟨vo, vp, vc, _, _, hc0, hc1, hc2, h3⟩ := hp.at
 obtain ⟨ao, capo, rfl, _, _⟩ := h3.o.shape
 obtain ⟨ap, capp, rfl, _, _⟩ := Sl.shape h3.p
 obtain ⟨ac, capc, rfl, _, _⟩ := Sl.shape h3.c
 have hcon := isConsistent_ok P w (.agg #[.slice ao P.orders.length capo, .slice ap P.powers.length capp, .slice ac P.conj.length capc]) Sp ⟨_, _, _, rfl, h3⟩
 rw [icons_eq] at hcon
 go_enter Tryz.func169, Tryz.ntmps169
 go_wp2_with fail
 refine Calls.mono hcon ?_
 rintro e1 w1 ⟨v, rfl, hg1, rfl⟩
 clear hcon
 cases hq : rconsB P with
 | false =>
  have HQ := Lib.hid hq; clear hq
  go_wp2
  go_ret
  exact ⟨_, rfl, hg1, false, rfl, by simp only [Bool.false_eq_true, false_iff]; rintro ⟨h, _⟩; rw [HQ.out] at h; cases h⟩
 | true =>
  have G := grp_of_r hq
  have hn6 := G.v.n6
  have HQ := Lib.hid hq; clear hq hc1 hc2
  go_wp2
  go_loopw [16] (fun iv wr => ∃ i : Nat, iv = .int .i64 i ∧ i ≤ us.length ∧ Ext w wr ∧ Hid (∀ j, j < i → SubB P (gt us j))) (fun iv _ => us.length - (intOf iv).toNat)
  case atStart => exact ⟨0, rfl, by omega, hg1, Lib.hid (fun j h => by omega)⟩
  case round =>
   obtain ⟨i, rfl, hi, hg, hS⟩ := hrel
   by_cases hlt : i < us.length
   ·have hlt' : (i : Int) < us.length := by omega
    obtain ⟨b, off, a2, cap2, rfl, _, _, hcu, hu⟩ := Rows3.at hl i hlt
    obtain ⟨U, hU⟩ : ∃ U, U = gt us i := ⟨_, rfl⟩
    rw [← hU] at hcu hu
    have HUe := Lib.hid hU; clear hU
    have hc0r := hg.cell hc0 (by simp)
    have hcur := hg.cell hcu (by simp)
    by_cases hlen : U.length ≤ P.orders.length
    ·have hgt : ¬ (P.orders.length : Int) < U.length := by omega
     go_wp2
     clear hcur hc0r hgt
     go_loopw [30] (fun jv wr => ∃ j : Nat, jv = .int .i64 j ∧ j ≤ U.length ∧ Ext w wr ∧ Hid (∀ l, l < j → Vec P.orders (gt U l))) (fun jv _ => U.length - (intOf jv).toNat)
     case atStart => exact ⟨0, rfl, by omega, hg, Lib.hid (fun j h => by omega)⟩
     case round =>
      clear hg
      obtain ⟨j, rfl, hj, hg, hV⟩ := hrel
      by_cases hjl : j < U.length
      ·have hjl' : (j : Int) < U.length := by omega
       obtain ⟨b3, off3, a3, cap3, rfl, _, _, hc3, hr3⟩ := Rows2.at (Rows2.ext hu hg) j hjl
       have hex := isExponents_ok wr _ _ P (gt U j) Sp Sr (hp.ext hg) hr3 (fun i hi => by have := G.v.ord7 i hi; omega)
       cases hb : expB P.orders (gt U j) with
       | true =>
        rw [hb] at hex
        have HB := Lib.hid (expB_vec.1 hb); clear hb
        go_wp2_with fail
        refine Calls.mono hex ?_
        rintro eE wE ⟨rfl, rfl⟩
        clear hex
        go_wp2
        go_roundw
        case rel => exact ⟨j + 1, by go_num, by omega, hg, Lib.hid (fun l hl => by
         rcases Nat.lt_succ_iff_lt_or_eq.1 hl with h | h
         ·exact hV.out l h
         ·rw [h]; exact HB.out)⟩
        case measure => simp [intOf]; omega
       | false =>
        rw [hb] at hex
        have hno : ¬ SubB P U := fun h => by
         have := expB_vec.2 (h.1 _ (gtMem hjl))
         rw [hb] at this; cases this
        have HB := Lib.hid hno; clear hb hno
        go_wp2_with fail
        refine Calls.mono hex ?_
        rintro eE wE ⟨rfl, rfl⟩
        clear hex
        go_wp2
        go_ret
        exact ⟨_, rfl, hg, false, rfl, by
         simp only [Bool.false_eq_true, false_iff]
         rintro ⟨_, h⟩
         exact HB.out (by rw [HUe.out]; exact h _ (gtMem hlt))⟩
      ·have hje : j = U.length := by omega
       subst hje
       have hUV : ∀ x ∈ U, Vec P.orders x := fun x hx => by
        obtain ⟨l, hl, rfl⟩ := List.getElem_of_mem hx
        rw [← gt_eq U l hl]; exact hV.out l hl
       have hcl : (cseq P (genP P (fun x => x ∈ U))).length ≤ P.orders.length := G.cseq_len (G.genP_sub hUV)
       have HUV := Lib.hid hUV; clear hUV
       go_wp2_with fail
       refine Calls.mono (generated_ok P G wr _ _ U Sp Sr (hp.ext hg) (Rows2.ext hu hg) HUV.out (by omega)) ?_
       rintro eG wG ⟨vG, rfl, hgG, hOG⟩
       have hgw := grown_trans hg hgG
       have hRG := RowsD.rows (hOG.toD (by omega))
       obtain ⟨aG, capG, hvG, _, _⟩ := Sl.shape hRG
       subst hvG
       go_wp2_with fail
       refine Calls.mono (sameRows_ok _ _ _ U wG _ _ hRG (Rows2.ext hu hgw)) ?_
       rintro eS wS ⟨vS, rfl, hgS, rfl⟩
       cases hb : eqB (cseq P (genP P (fun x => x ∈ U))) U with
       | true =>
        have HB := Lib.hid (eqB_true.1 hb); clear hb
        go_wp2
        go_roundw
        case rel => exact ⟨i + 1, by go_num, by omega, grown_trans hgw hgS, Lib.hid (fun l hl => by
         rcases Nat.lt_succ_iff_lt_or_eq.1 hl with h | h
         ·exact hS.out l h
         ·rw [h, ← HUe.out]; exact ⟨HUV.out, HB.out.symm⟩)⟩
        case measure => simp [intOf]; omega
       | false =>
        have HB := Lib.hid (eqB_false.1 hb); clear hb
        go_wp2
        go_ret
        exact ⟨_, rfl, grown_trans hgw hgS, false, rfl, by
         simp only [Bool.false_eq_true, false_iff]
         rintro ⟨_, h⟩
         have := h _ (gtMem hlt)
         rw [← HUe.out] at this
         exact HB.out this.2.symm⟩
    ·have hgt : (P.orders.length : Int) < U.length := by omega
     have hno : ¬ SubB P U := fun h => hlen (G.sub_len h)
     have HB := Lib.hid hno; clear hno hlen
     go_wp2
     go_ret
     exact ⟨_, rfl, hg, false, rfl, by
      simp only [Bool.false_eq_true, false_iff]
      rintro ⟨_, h⟩
      exact HB.out (by rw [HUe.out]; exact h _ (gtMem hlt))⟩
   ·have hie : i = us.length := by omega
    subst hie
    go_wp2
    go_ret
    exact ⟨_, rfl, hg, true, rfl, by
     simp only [true_iff]
     exact ⟨HQ.out, fun u hu => by
      obtain ⟨l, hl, rfl⟩ := List.getElem_of_mem hu
      rw [← gt_eq us l hl]; exact hS.out l hl⟩⟩
end Go.Proofs.YtmjkoejegfjbbaaGreat
namespace Go.Proofs.YtmjkoejegfjbbaaGreat
theorem pwZ_nat (P : Pr) (x : List Int) (k : Int) (hk : 0 ≤ k) : pwZ P x k = pw P x k.toNat := by
 unfold pwZ; rw [if_neg (by omega)]
def tabTo (U : List (List Int)) (n : Nat) : Nat → List (List Int)
 | 0 => List.replicate n []
 | k + 1 => (tabTo U n k).set (dep (gt U k)) (gt U k)
theorem tabTo_len (U : List (List Int)) (n k : Nat) : (tabTo U n k).length = n := by
 induction k with
 | zero => simp [tabTo]
 | succ k ih => simp only [tabTo, List.length_set]; exact ih
theorem tabTo_at (P : Pr) (U : List (List Int)) : ∀ k, k ≤ U.length → ∀ d, d < P.orders.length →
  (gt (tabTo U P.orders.length k) d = [] ∧ ∀ j, j < k → dep (gt U j) ≠ d) ∨ ∃ j, j < k ∧ dep (gt U j) = d ∧ gt (tabTo U P.orders.length k) d = gt U j := by
 intro k
 induction k with
 | zero => intro _ d hd; exact .inl ⟨by simp [tabTo, gt, hd], fun j hj => by omega⟩
 | succ k ih =>
  intro hk d hd
  have hl := tabTo_len U P.orders.length k
  simp only [tabTo]
  by_cases h : dep (gt U k) = d
  ·right
   exact ⟨k, by omega, h, by rw [h, gt_set_eq _ _ _ (by omega)]⟩
  ·rw [gt_set_ne _ _ _ _ h]
   rcases ih (by omega) d hd with ⟨h1, h2⟩ | ⟨j, h1, h2, h3⟩
   ·left
    refine ⟨h1, fun j hj => ?_⟩
    rcases Nat.lt_succ_iff_lt_or_eq.1 hj with hj | hj
    ·exact h2 j hj
    ·rw [hj]; exact h
   ·right
    exact ⟨j, by omega, h2, h3⟩
theorem tabTo_vec {P : Pr} {U : List (List Int)} (hU : SeqOk P U) (d : Nat) (hd : d < P.orders.length) (hne : gt (tabTo U P.orders.length U.length) d ≠ []) :
  T P d (gt (tabTo U P.orders.length U.length) d) ∧ gt (gt (tabTo U P.orders.length U.length) d) d = 1 := by
 rcases tabTo_at P U U.length (Nat.le_refl _) d hd with ⟨h, _⟩ | ⟨j, hj, hjd, he⟩
 ·exact absurd h hne
 ·obtain ⟨a, _, c⟩ := hU.1 _ (gtMem hj)
  rw [he, ← hjd]
  exact ⟨dep_T a, c⟩
structure RedTo (P : Pr) (H : List Int → Prop) (b : List (List Int)) (X : List Int) (d : Nat) (Y : List Int) : Prop where
 vec : Vec P.orders Y
 cos : H (rMul P (rInv P X) Y)
 zer : ∀ e, e < d → gt b e ≠ [] → gt Y e = 0
structure StripTo (P : Pr) (b : List (List Int)) (X : List Int) (d : Nat) (Y : List Int) : Prop where
 vec : T P d Y
 inv : ∀ Q q R, AddInv P Q (gt b) (X :: q) R → ∃ R', AddInv P Q (gt b) (Y :: q) R'
structure FullTo (P : Pr) (r : Nat → List Int) (m : Nat) (X : List Int) (e : Nat) (Y : List Int) : Prop where
 vec : Vec P.orders Y
 zer : ∀ i, m ≤ i → i < e → r i ≠ [] → gt Y i = 0
 cos : ∀ K, Sub P K → (∀ i, m ≤ i → i < P.orders.length → r i ≠ [] → K (r i)) → K (rMul P (rInv P X) Y)
 old : ∀ k, (∀ i, m ≤ i → i < P.orders.length → r i ≠ [] → k < i) → gt Y k = gt X k
def comsR (P : Pr) (b : List (List Int)) (z : List Int) : Nat → List (List Int)
 | 0 => []
 | k + 1 => comsR P b z k ++ (if gt b k = [] then [] else [comR P z (gt b k)])
theorem comsR_len (P : Pr) (b : List (List Int)) (z : List Int) (k : Nat) : (comsR P b z k).length ≤ k := by
 induction k with
 | zero => exact Nat.le_refl _
 | succ k ih => simp only [comsR]; split <;> simp <;> omega
theorem mem_comsR {P : Pr} {b : List (List Int)} {z x : List Int} {k : Nat} : x ∈ comsR P b z k ↔ ∃ e, e < k ∧ gt b e ≠ [] ∧ x = comR P z (gt b e) := by
 induction k with
 | zero => simp [comsR]
 | succ k ih =>
  simp only [comsR, List.mem_append, ih]
  constructor
  ·rintro (⟨e, h1, h2, h3⟩ | h)
   ·exact ⟨e, by omega, h2, h3⟩
   ·split at h
    ·simp at h
    ·rename_i hk
     simp at h
     exact ⟨k, by omega, hk, h⟩
  ·rintro ⟨e, h1, h2, h3⟩
   rcases Nat.lt_succ_iff_lt_or_eq.1 h1 with h | h
   ·exact .inl ⟨e, h, h2, h3⟩
   ·subst h; right; rw [if_neg h2]; simp [h3]
section
variable {P : Pr} (G : Grp P)
include G
theorem Grp.ind_tab {H : List Int → Prop} (S : Sub P H) : Ind P H (gt (tabTo (cseq P H) P.orders.length (cseq P H).length)) := by
 obtain ⟨h1, h2, h3⟩ := G.seq_facts S
 refine ⟨S, fun d hd hne => ?_, fun x hx d hd hT h0 => ?_⟩
 ·refine ⟨?_, tabTo_vec h1 d hd hne⟩
  rcases tabTo_at P _ _ (Nat.le_refl _) d hd with ⟨h, _⟩ | ⟨j, hj, _, he⟩
  ·exact absurd h hne
  ·rw [he]; exact h2 _ (gtMem hj)
 ·obtain ⟨j, hj, hjd⟩ := h3 x hx d hd hT h0
  rcases tabTo_at P _ _ (Nat.le_refl _) d hd with ⟨_, h⟩ | ⟨i, hi, _, he⟩
  ·exact absurd hjd (h j hj)
  ·rw [he]
   intro hn
   have := (h1.1 _ (gtMem hi)).1.1
   rw [hn] at this; simp at this; omega
theorem Grp.redTo_zero {H : List Int → Prop} {b : List (List Int)} (S : Sub P H) {X : List Int} (hX : Vec P.orders X) : RedTo P H b X 0 X :=
 ⟨hX, by rw [G.inv_mul hX]; exact S.one, fun e he => by omega⟩
omit G in
theorem RedTo.skip {H : List Int → Prop} {b : List (List Int)} {X Y : List Int} {d : Nat} (h : RedTo P H b X d Y) (h0 : gt b d = [] ∨ gt Y d = 0) : RedTo P H b X (d + 1) Y :=
 ⟨h.vec, h.cos, fun e he hb => by
  rcases Nat.lt_succ_iff_lt_or_eq.1 he with h1 | h1
  ·exact h.zer e h1 hb
  ·subst h1; exact h0.elim (fun h => absurd h hb) id⟩
theorem Grp.redTo_step {H : List Int → Prop} {b : List (List Int)} (I : Ind P H (gt b)) {X Y : List Int} {d : Nat} (hX : Vec P.orders X) (hd : d < P.orders.length) (hb : gt b d ≠ []) (h : RedTo P H b X d Y) :
  RedTo P H b X (d + 1) (rMul P Y (pwZ P (gt b d) (-(gt Y d)))) := by
 obtain ⟨m1, m2, m3⟩ := I.mem d hd hb
 have hc := G.right_clear hd h.vec m2 m3
 refine ⟨hc.2.2, ?_, fun e he hbe => ?_⟩
 ·rw [← G.ass (G.invV hX) h.vec (G.pwZ_vec m2.1 _)]
  exact I.sub.mul _ _ h.cos (I.sub.pwZ m1 _)
 ·rcases Nat.lt_succ_iff_lt_or_eq.1 he with h1 | h1
  ·rw [hc.2.1 e h1]; exact h.zer e h1 hbe
  ·subst h1; exact hc.1
omit G in
theorem RedTo.rep {H : List Int → Prop} {b : List (List Int)} {X Y : List Int} (h : RedTo P H b X P.orders.length Y) : Rep P H (gt b) X Y := ⟨h.vec, h.cos, h.zer⟩
omit G in
theorem stripTo_zero {b : List (List Int)} {X : List Int} (hX : Vec P.orders X) : StripTo P b X 0 X := ⟨T_zero.2 hX, fun _ _ R A => ⟨R, A⟩⟩
omit G in
theorem StripTo.skip {b : List (List Int)} {X Y : List Int} {d : Nat} (h : StripTo P b X d Y) (h0 : gt Y d = 0) : StripTo P b X (d + 1) Y := ⟨h.vec.up h0, h.inv⟩
theorem Grp.stripTo_step {b : List (List Int)} {X Y : List Int} {d : Nat} (hd : d < P.orders.length) (hb : gt b d ≠ []) (ht : T P d (gt b d) ∧ gt (gt b d) d = 1) (h0 : gt Y d ≠ 0) (h : StripTo P b X d Y) :
  StripTo P b X (d + 1) (rMul P Y (pwZ P (gt b d) (-(gt Y d)))) := by
 have hc := G.right_clear hd h.vec.1 ht.1 ht.2
 have hT : T P (d + 1) (rMul P Y (pwZ P (gt b d) (-(gt Y d)))) := T.up ⟨hc.2.2, fun k hk => by rw [hc.2.1 k hk]; exact h.vec.2 k hk⟩ hc.1
 have hp := G.pwZ_vec ht.1.1 (-(gt Y d))
 refine ⟨hT, fun Q q R A => ?_⟩
 obtain ⟨R1, A1⟩ := h.inv Q q R A
 refine ⟨_, addInv_sift A1 hd h.vec h0 hb hT (fun K S h1 h2 => ?_) (fun K S h1 h2 => S.mul _ _ h2 (S.pwZ h1 _))⟩
 have h3 := S.mul _ _ h2 (S.inv _ (S.pwZ h1 (-(gt Y d))))
 rwa [G.ass h.vec.1 hp (G.invV hp), G.mul_inv hp, G.grp.er _ h.vec.1] at h3
theorem Grp.close_step {Q : List Int → Prop} {b q q' : List (List Int)} {R : List Int → Prop} {y : List Int} (A : AddInv P Q (gt b) (y :: q) R) {d : Nat} (hd : d < P.orders.length) (hT : T P d y) (hb : gt b d = []) (hlen : b.length = P.orders.length)
  (k : Int) (hk0 : 0 ≤ k) (hk : (k * gt y d) % gt P.orders d = 1) (hq' : ∀ x, x ∈ q' ↔ x ∈ q ∨ x = y ∨ x = pw P (pw P y k.toNat) (gt P.orders d).toNat ∨ x ∈ comsR P b (pw P y k.toNat) P.orders.length) :
  ∃ R', AddInv P Q (gt (b.set d (pw P y k.toNat))) q' R' := by
 obtain ⟨hz, hz1⟩ := G.lead_one hd hT k hk0 hk
 refine ⟨_, G.addInv_insert A hd hT hb hz hz1 (fun K S h => S.pw h _) (fun e he => ?_) (fun x hx => ?_) (fun x hx => ?_) (fun e he hbe => .inr ?_)⟩
 ·by_cases h : e = d
  ·subst h; rw [if_pos rfl, gt_set_eq _ _ _ (by omega)]
  ·rw [if_neg h, gt_set_ne _ _ _ _ (fun h2 => h h2.symm)]
 ·rcases (hq' x).1 hx with h | h | h | h
  ·exact .inl h
  ·exact .inr (.inl h)
  ·exact .inr (.inr (.inr (.inl h)))
  ·obtain ⟨e, h1, h2, h3⟩ := mem_comsR.1 h
   exact .inr (.inr (.inr (.inr ⟨e, h1, h2, .inr h3⟩)))
 ·rw [hq']
  rcases hx with h | h | h
  ·exact .inl h
  ·exact .inr (.inl h)
  ·exact .inr (.inr (.inl h))
 ·rw [hq']
  exact .inr (.inr (.inr (mem_comsR.2 ⟨e, he, hbe, rfl⟩)))
theorem Grp.fullTo_zero {r : Nat → List Int} {m : Nat} {X : List Int} (hX : Vec P.orders X) : FullTo P r m X m X :=
 ⟨hX, fun i h1 h2 => by omega, fun K S _ => by rw [G.inv_mul hX]; exact S.one, fun _ _ => rfl⟩
omit G in
theorem FullTo.skip {r : Nat → List Int} {m e : Nat} {X Y : List Int} (h : FullTo P r m X e Y) (h0 : r e = [] ∨ gt Y e = 0) : FullTo P r m X (e + 1) Y :=
 ⟨h.vec, fun i h1 h2 hr => by
  rcases Nat.lt_succ_iff_lt_or_eq.1 h2 with h3 | h3
  ·exact h.zer i h1 h3 hr
  ·subst h3; exact h0.elim (fun h => absurd h hr) id, h.cos, h.old⟩
theorem Grp.fullTo_step {r : Nat → List Int} {m e : Nat} {X Y : List Int} (hX : Vec P.orders X) (hme : m ≤ e) (he : e < P.orders.length) (hr : r e ≠ []) (ht : T P e (r e) ∧ gt (r e) e = 1) (h : FullTo P r m X e Y) :
  FullTo P r m X (e + 1) (rMul P Y (pwZ P (r e) (-(gt Y e)))) := by
 have hc := G.right_clear he h.vec ht.1 ht.2
 refine ⟨hc.2.2, fun i h1 h2 hri => ?_, fun K S hK => ?_, fun k hk => by rw [hc.2.1 k (hk e hme he hr)]; exact h.old k hk⟩
 ·rcases Nat.lt_succ_iff_lt_or_eq.1 h2 with h3 | h3
  ·rw [hc.2.1 i h3]; exact h.zer i h1 h3 hri
  ·subst h3; exact hc.1
 ·rw [← G.ass (G.invV hX) h.vec (G.pwZ_vec ht.1.1 _)]
  exact S.mul _ _ (h.cos K S hK) (S.pwZ (hK e hme he hr) _)
omit G in
theorem FullTo.repTo {H : List Int → Prop} {b r : Nat → List Int} {d k : Nat} {X Y : List Int} (h : FullTo P r (d + 1) X P.orders.length Y) (C : CanInv P H b r (d + 1)) (hk : d + 1 + k = P.orders.length) :
  RepTo P (sq r k (d + 1)) X (sq r k (d + 1)).length Y := by
 refine ⟨h.vec, fun j hj => ?_, fun K S hK => h.cos K S (fun i h1 h2 h3 => hK _ (mem_sq.2 ⟨i, h1, by omega, h3, rfl⟩)), fun j hj => h.old j (fun i h1 h2 h3 => by
  have := hj _ (mem_sq.2 ⟨i, h1, by omega, h3, rfl⟩)
  rwa [C.dep h1 h2 h3] at this)⟩
 obtain ⟨e, h1, h2, h3, h4⟩ := mem_sq.1 (gtMem hj)
 rw [h4, C.dep h1 (by omega) h3]
 exact h.zer e h1 (by omega) h3
end
end Go.Proofs.YtmjkoejegfjbbaaGreat
namespace Go.Proofs.YtmjkoejegfjbbaaGreat
open Go.RowKit
theorem Grp.rRep_pw {P : Pr} (G : Grp P) {X : List Int} (hX : Vec P.orders X) (k : Nat) : rRep (rAt P P.orders.length 0) (zeros P.orders.length) X k = pw P X k :=
 G.lvl.rRep_eq (T_zero.2 hX) k
set_option maxHeartbeats 2000000 in
theorem l10Pow_ok (P : Pr) (G : Grp P) (w : World) (pv x : Value) (X : List Int) (k : Int) (Sp Sx : Nat → Prop) (hp : PresV Sp w pv P) (hx : Ints Sx w x X) (hX : Vec P.orders X) (hk : -1000000000 ≤ k ∧ k ≤ 1000000000) :
  Calls Tryz.prog 319 #[pv, x, .int .i64 k] w (Ret w fun w' v => Own w.heap.size w' v (pwZ P X k)) := by
 have hP := G.v
 have hn6 := hP.n6
 obtain ⟨vo, vp, vc, rfl, h3⟩ := hp
 have hBx := PresP.box h3 39
 have hg0 : Ext w (w.alloc (.cells #[vo, vp, vc] 39)) := World.grownBy_alloc _ _ _
 have hx0 := hx.ext hg0
 have hs0 : (w.alloc (.cells #[vo, vp, vc] 39)).heap.size = w.heap.size + 1 := by simp
 have HS := Lib.hid hs0; clear hs0 hx
 have hXl : X.length = P.orders.length := hX.1
 have HX := Lib.hid (And.intro hX hXl); clear hX hXl
 by_cases hneg : k < 0
 ·have e0 : pwZ P X k = pw P (rInv P X) (-k).toNat := by unfold pwZ; rw [if_pos hneg]
  have hiV := G.invV HX.out.1
  have hil : (rInv P X).length ≤ 6 := by rw [hiV.1]; omega
  have HE := Lib.hid (And.intro e0 hiV); clear e0 hiV
  have hwr : IntKind.i64.wrap (-k) = -k := IntWalk.i64_in _ (by omega)
  go_enter Tryz.func319, Tryz.ntmps319
  go_wp2
  generalize hw0 : w.alloc (.cells #[vo, vp, vc] 39) = w0 at *
  clear hw0
  obtain ⟨vo6, vp6, vc6, _, _, hc0, hc1, hc2, h36⟩ := hBx.at
  have e1 : ∀ w', Ext w0 w' → w'.cell? ⟨w.heap.size, 0, none⟩ = some vo6 := fun w' h => h.cell hc0 (by simp)
  have e2 : ∀ w', Ext w0 w' → w'.cell? ⟨w.heap.size, 1, none⟩ = some vp6 := fun w' h => h.cell (by simpa using hc1) (by simp)
  have e3 : ∀ w', Ext w0 w' → w'.cell? ⟨w.heap.size, 2, none⟩ = some vc6 := fun w' h => h.cell (by simpa using hc2) (by simp)
  clear hc0 hc1 hc2
  go_region_held3 (fun w' => Ext w0 w') (first | exact grown_drew _ _ | assumption)
   (first
    | (go_at_call 140; refine Calls.mono (Calls.rel (w0 := w0) (by assumption) (l10Inv_ok P hP _ _ _ _ Any Any ⟨_, _, _, rfl, Pres3.ext h36 (by assumption)⟩ (Ints.sub (Ints.ext hx0 (by assumption)) (fun _ _ _ => trivial)) HX.out.1)) ?_; rintro eA wA ⟨vA, rfl, hgA, hsA, hOA⟩; have hOA2 := hOA.ints (by omega))
    | (go_at_call 376; refine Calls.mono (Calls.rel (w0 := w0) (by assumption) (l08Repeat_ok P hP _ _ _ 0 P.orders.length (by omega) _ (-k) Any Any ⟨_, _, _, rfl, Pres3.ext h36 (by assumption)⟩ hOA2 HE.out.2 (by omega) (by omega))) ?_; rintro eB wB ⟨vB, rfl, hgB, hsB, hOB⟩))
  clear e1 e2 e3
  rw [G.rRep_pw HE.out.2, ← HE.out.1] at hOB
  go_wp2
  go_ret
  exact ⟨_, rfl, grown_trans hg0 hgB, hOB.weak (by have := HS.out; omega)⟩
 ·have e0 : pwZ P X k = pw P X k.toNat := by unfold pwZ; rw [if_neg hneg]
  have HE := Lib.hid e0; clear e0
  obtain ⟨vo6, vp6, vc6, _, _, hc0, hc1, hc2, h36⟩ := hBx.at
  go_enter Tryz.func319, Tryz.ntmps319
  go_wp2_with fail
  refine Calls.mono (l08Repeat_ok P hP _ _ _ 0 P.orders.length (by omega) X k Any Sx ⟨_, _, _, rfl, h36⟩ hx0 HX.out.1 (by omega) (by omega)) ?_
  rintro eB wB ⟨vB, rfl, hgB, hOB⟩
  rw [G.rRep_pw HX.out.1, ← HE.out] at hOB
  go_wp2
  go_ret
  exact ⟨_, rfl, grown_trans hg0 hgB, hOB.weak (by have := HS.out; omega)⟩
end Go.Proofs.YtmjkoejegfjbbaaGreat
namespace Go.Proofs.YtmjkoejegfjbbaaGreat
open Go.RowKit
set_option maxHeartbeats 400000 in
theorem l02Lead_ok (v : Value) (X : List Int) (w : World) (S : Nat → Prop) (h : Ints S w v X) :
  Calls Tryz.prog 427 #[v] w fun e w' => e = .returned (.int .i64 (dep X)) ∧ w = w' := by
 obtain ⟨a, cap, rfl, _, _⟩ := h.shape
 go_enter Tryz.func427, Tryz.ntmps427
 go_wp2
 go_loop [3] (fun i => ∃ k : Nat, i = .int .i64 k ∧ k ≤ X.length ∧ ∀ j, j < k → gt X j = 0) (fun i => X.length - (intOf i).toNat)
 case atStart => exact ⟨0, rfl, by omega, fun j hj => by omega⟩
 case round =>
  obtain ⟨k, rfl, hk, hz⟩ := hrel
  have HZ := Lib.hid hz; clear hz
  by_cases hlt : k < X.length
  ·obtain ⟨b, off, rfl, _, _, hc⟩ := Ints.at h k hlt
   by_cases hx : gt X k = 0
   ·have hb : (gt X k != 0) = false := by simp [hx]
    have HX := Lib.hid hx; clear hx
    go_wp2
    go_round
    case rel => exact ⟨k + 1, by go_num, by omega, fun j hj => by
     rcases Nat.lt_succ_iff_lt_or_eq.1 hj with h1 | h1
     ·exact HZ.out j h1
     ·rw [h1]; exact HX.out⟩
    case measure => simp [intOf]; omega
   ·have hb : (gt X k != 0) = true := by simp [hx]
    have he : dep X = k := dep_eq hlt HZ.out hx
    have HE := Lib.hid he; clear he hx
    go_wp2
    go_ret
    exact ⟨by rw [HE.out]; rfl, rfl⟩
  ·have hke : k = X.length := by omega
   have he : dep X = X.length := dep_all (fun j hj => HZ.out j (by omega))
   have HE := Lib.hid he; clear he
   go_wp2
   go_ret
   exact ⟨by rw [HE.out]; rfl, rfl⟩
theorem l12Depth_ok (v : Value) (X : List Int) (w : World) (S : Nat → Prop) (h : Ints S w v X) :
  Calls Tryz.prog 382 #[v] w (Ret w fun _ r => r = .int .i64 (dep X)) := by
 have hcon := l02Lead_ok v X w S h
 obtain ⟨a, cap, rfl, _, _⟩ := h.shape
 go_enter Tryz.func382, Tryz.ntmps382
 go_wp2_with fail
 refine Calls.mono hcon ?_
 rintro e1 w1 ⟨rfl, rfl⟩
 clear hcon
 go_wp2
 go_ret
 exact ⟨_, rfl, Ext.refl _, rfl⟩
theorem TabAt.rows {B gb n : Nat} {bad : Nat → Prop} {w : World} {b : List (List Int)} (h : TabAt B bad w gb n b) (hn : n ≤ 1000000) : Rows2 (fun k => k = gb ∨ (k ≠ gb ∧ ¬ bad k)) w (.slice (some ⟨gb, 0, none⟩) n n) b := by
 have hl := h.len
 have hlt := h.lt
 refine ⟨_, _, by rw [hl], ⟨by omega, by omega, fun h => by cases h⟩, fun i hi => ?_⟩
 obtain ⟨_, hc⟩ := h.at i (by omega)
 rcases hc with ⟨h0, hc⟩ | ⟨_, a, cap, hc, hI⟩
 ·refine ⟨gb, 0, _, rfl, .inl rfl, hlt.2, by rw [Nat.zero_add]; exact hc, ?_⟩
  rw [h0]
  exact ⟨none, 0, rfl, ⟨by simp, by simp, fun _ => rfl⟩, fun j hj => by simp at hj⟩
 ·exact ⟨gb, 0, _, rfl, .inl rfl, hlt.2, by rw [Nat.zero_add]; exact hc, Ints.sub hI (fun k hk _ => .inr hk)⟩
set_option maxRecDepth 100000 in
set_option maxHeartbeats 1000000 in
theorem l12Table_ok (P : Pr) (hP : Valid P) (w : World) (pv uv : Value) (U : List (List Int)) (Sp Su : Nat → Prop) (hpv : PresV Sp w pv P) (hu : Rows2 Su w uv U) (hU : SeqOk P U) (hl : U.length ≤ 6) :
  Calls Tryz.prog 375 #[pv, uv] w (Ret w fun w' v => Rows2 Any w' v (tabTo U P.orders.length U.length)) := by
 have hn6 := hP.n6
 obtain ⟨vo, vp, vc, rfl, h3⟩ := hpv
 have hp0 := PresP.box h3 39
 have hg0 : Ext w (w.alloc (.cells #[vo, vp, vc] 39)) := World.grownBy_alloc _ _ _
 obtain ⟨ao, capo, hco, hoi⟩ := hp0.ordAt
 obtain ⟨au, capu, rfl, _, _⟩ := Sl.shape hu
 have HU := Lib.hid hU; clear hU
 go_enter Tryz.func375, Tryz.ntmps375
 go_wp2_with (first | (at_make; refine wp_make_tab rfl _ _ rfl w.heap.size P.orders.length (w.heap.size + 1) (by simp) _ rfl rfl rfl (by omega) (by omega) ?_; intro w1 hT1 hg1 hlt1) | fail)
 have hgw := grown_trans hg0 hg1
 have hT := hT1 (fun _ => False)
 clear hT1 hco hoi hp0
 go_loopw [6] (fun iv wr => ∃ i : Nat, iv = .int .i64 i ∧ i ≤ U.length ∧ Ext w wr ∧ TabAt w.heap.size (fun _ => False) wr (w.heap.size + 1) P.orders.length (tabTo U P.orders.length i)) (fun iv _ => U.length - (intOf iv).toNat)
 case atStart => exact ⟨0, rfl, by omega, hgw, hT⟩
 case round =>
  clear hT hgw
  obtain ⟨i, rfl, hi, hg, hT⟩ := hrel
  by_cases hlt : i < U.length
  ·have hlt' : (i : Int) < U.length := by omega
   obtain ⟨b, off, a2, cap2, rfl, _, hbl0, hc0, hr⟩ := Rows2.at hu i hlt
   have hc := hg.cell hc0 (by simp)
   clear hc0
   obtain ⟨hzV, hzd, hz1⟩ := HU.out.1 _ (gtMem hlt)
   have hst : tabTo U P.orders.length (i + 1) = (tabTo U P.orders.length i).set (dep (gt U i)) (gt U i) := rfl
   obtain ⟨z, hz⟩ : ∃ z, z = gt U i := ⟨_, rfl⟩
   rw [← hz] at hc hr hzV hzd hz1 hst
   clear hz
   obtain ⟨d, hd⟩ : ∃ d, d = dep z := ⟨_, rfl⟩
   rw [← hd] at hzd hst hz1
   have HD := Lib.hid hd; clear hd
   have hbl : b < w.heap.size := hbl0
   have hr3 := Ints.ext hr hg
   have hzne : z ≠ [] := fun e => by have := hzV.1; rw [e] at this; simp at this; omega
   have hrS : Ints (fun k => k ≠ w.heap.size + 1 ∧ ¬ False) wr (.slice a2 z.length cap2) z := by
    have h1 : Ints (fun k => k < w.heap.size) w (.slice a2 z.length cap2) z := Ints.sub hr (fun _ _ h => h)
    exact h1.mono (fun k hk hlt => ⟨⟨by omega, id⟩, Nat.lt_of_lt_of_le hlt hg.size, hg.block k hlt (by simp)⟩)
   obtain ⟨hfr, hcc⟩ := hT.at d hzd
   have HS := Lib.hid (And.intro hst (And.intro hzne (And.intro hzV hz1))); clear hst hzne hzV hz1
   have hdn : (d : Int) < P.orders.length := by omega
   obtain ⟨u0, hu0⟩ : ∃ u0, wr.cell? ⟨w.heap.size + 1, d, none⟩ = some u0 := by rcases hcc with ⟨_, h⟩ | ⟨_, _, _, h, _⟩ <;> exact ⟨_, h⟩
   clear hcc hbl0
   have e1 : ∀ w', Near wr (w.heap.size + 1) w' → w'.cell? ⟨b, off + i, none⟩ = some (.slice a2 z.length cap2) := fun w' h => h.cell hc (by simp; omega)
   go_wp2
   go_region_held3 (fun w' => Near wr (w.heap.size + 1) w') (first | exact Near.of (grown_drew _ _) | exact Near.of (by assumption) | exact Near.store (by assumption) | assumption)
    (first
     | (go_at_call 382; refine Calls.mono (Calls.rel (w0 := wr) (by first | exact grown_drew _ _ | assumption) (l12Depth_ok _ z _ Any (Ints.sub (Ints.ext hr3 (by first | exact grown_drew _ _ | assumption)) (fun _ _ _ => trivial)))) ?_; rintro eE wE ⟨vE, rfl, hgE, hsE, hvE⟩; rw [← HD.out] at hvE; subst hvE; have hcel2 := hgE.cell hu0 (by simp); have hfr2 := ((hT.ext hgE).at d hzd).1))
   clear e1
   obtain ⟨hT5, hg5⟩ := (hT.ext hgE).put d (u := .slice a2 z.length cap2) (y := z) (Ints.ext hrS hgE) HS.out.2.1
   have hgn : Ext w (wE.setCell ⟨w.heap.size + 1, d, none⟩ (.slice a2 z.length cap2)) := grown_own (grown_trans hg hgE) hg5 (fun j hj hlt => by cases hj; omega)
   clear hcel2 hfr2 hg5
   go_wp2
   go_roundw
   case rel => exact ⟨i + 1, by go_num, by omega, hgn, by rw [HS.out.1]; exact hT5⟩
   case measure => simp [intOf]; omega
  ·have hie : i = U.length := by omega
   subst hie
   go_wp2
   go_ret
   exact ⟨_, rfl, hg, Rows2.sub (hT.rows (by omega)) (fun _ _ _ => trivial)⟩
end Go.Proofs.YtmjkoejegfjbbaaGreat
namespace Go.Proofs.YtmjkoejegfjbbaaGreat
open Go.RowKit
theorem seqOf_succ (n : Nat) (r : Nat → List Int) : seqOf (n + 1) r = seqOf n r ++ (if r n = [] then [] else [r n]) := by
 unfold seqOf
 rw [List.range_succ, List.filterMap_append]
 congr 1
 by_cases h : r n = [] <;> simp [h]
theorem seqOf_len (n : Nat) (r : Nat → List Int) : (seqOf n r).length ≤ n := by rw [sq_all]; exact sq_len _ _ _
theorem ShQ.rows {bad : Nat → Prop} {B : Nat} {w : World} {v : Value} {xs : List (List Int)} (h : ShQ bad B w v xs) : Rows2 Any w v xs := by
 obtain ⟨vs, hl, hq, hr⟩ := h
 rcases hq with ⟨rfl, rfl⟩ | ⟨g, off, cap, cur, rfl, hb, hg, hnc, hcm, hsz, hc⟩
 ·have : xs = [] := List.eq_nil_of_length_eq_zero (by simpa using hl.symm)
  subst this
  exact ⟨none, 0, rfl, ⟨by simp, by simp, fun _ => rfl⟩, fun i hi => by simp at hi⟩
 ·refine ⟨_, cap, by rw [hl], ⟨by omega, by unfold maxLen at hcm; omega, fun h => by cases h⟩, fun i hi => ⟨g, off, gt vs i, rfl, trivial, (Array.getElem?_eq_some_iff.1 hg).1, ?_, Ints.sub (hr i hi) (fun _ _ _ => trivial)⟩⟩
  simp only [World.cell?, hg, Option.isSome_none, Bool.false_eq_true, if_false]
  exact hc i (by omega)
theorem ShQ.lit (bad : Nat → Prop) (B : Nat) (w : World) (hB : B ≤ w.heap.size) : ShQ bad B (w.alloc (.cells #[] 36)) (.slice (some ⟨w.heap.size, 0, none⟩) 0 0) [] :=
 ⟨[], rfl, QOwn.of (World.ownsRow_lit w #[] 0 hB (by decide) rfl), fun i hi => by simp at hi⟩
theorem CanInv.congr {P : Pr} {H : List Int → Prop} {b r r' : Nat → List Int} {m : Nat} (h : CanInv P H b r m) (he : ∀ e, m ≤ e → e < P.orders.length → r' e = r e) : CanInv P H b r' m :=
 ⟨fun e h1 h2 => by rw [he e h1 h2]; exact h.nil e h1 h2, fun e h1 h2 h3 => by rw [he e h1 h2] at h3 ⊢; exact h.mem e h1 h2 h3,
  fun e e' h1 h2 h3 h4 h5 => by rw [he e h1 (by omega)] at h4 ⊢; rw [he e' (by omega) h3] at h5; exact h.red e e' h1 h2 h3 h4 h5⟩
theorem ShQ.weak {bad : Nat → Prop} {B B' : Nat} {w : World} {v : Value} {xs : List (List Int)} (h : ShQ bad B w v xs) (hb : B' ≤ B) : ShQ bad B' w v xs := by
 obtain ⟨vs, hl, hq, hr⟩ := h
 exact ⟨vs, hl, hq.weak hb, hr⟩
set_option maxRecDepth 100000 in
set_option maxHeartbeats 4000000 in
theorem l12FullF_ok (P : Pr) (G : Grp P) (w : World) (pv tv : Value) (b : List (List Int)) (H : List Int → Prop) (Sp Sb : Nat → Prop) (hpv : PresV Sp w pv P) (ht : Rows2 Sb w tv b) (hlb : b.length = P.orders.length) (hI : Ind P H (gt b)) (Av : Nat → Prop) (hAv : ∀ k, Av k → k < w.heap.size ∧ ¬ Sb k) :
  Calls Tryz.prog 379 #[pv, tv] w (Ret w fun w' v => ShQ Av w.heap.size w' v (cseq P H)) := by
 have hP := G.v
 have hn6 := hP.n6
 obtain ⟨vo, vp, vc, rfl, h3⟩ := hpv
 have hp0 := PresP.box h3 39
 have hg0 : Ext w (w.alloc (.cells #[vo, vp, vc] 39)) := World.grownBy_alloc _ _ _
 have hs0 : (w.alloc (.cells #[vo, vp, vc] 39)).heap.size = w.heap.size + 1 := by simp
 obtain ⟨at_, capt, hvt, _, _⟩ := Sl.shape ht
 rw [hlb] at hvt
 subst hvt
 have HI := Lib.hid (And.intro hI hlb); clear hI hlb
 obtain ⟨vo6, vp6, vc6, _, _, hc0, hc1, hc2, h36⟩ := hp0.at
 simp only [Nat.zero_add] at hc1 hc2
 clear hp0
 have hwn : IntKind.i64.wrap ((P.orders.length : Int) - 1) = (P.orders.length : Int) - 1 := IntWalk.i64_in _ (by omega)
 go_enter Tryz.func379, Tryz.ntmps379
 go_wp2_with (first | (at_make; refine wp_make_tab rfl _ _ rfl w.heap.size P.orders.length (w.heap.size + 1) (by simp) _ rfl rfl rfl (by omega) (by omega) ?_; intro w1 hT1 hg1 hlt1) | fail)
 clear hwn
 have HS := Lib.hid hs0; clear hs0
 generalize hw0 : w.alloc (.cells #[vo, vp, vc] 39) = w0 at *
 clear hw0
 have hT := hT1 Av
 clear hT1
 go_loopw [6] (fun dv wr => ∃ (m : Nat) (dl : List (List Int)), dv = .int .i64 ((m : Int) - 1) ∧ m ≤ P.orders.length ∧ Ext w0 wr ∧ TabAt w.heap.size Av wr (w.heap.size + 1) P.orders.length dl ∧ Hid (CanInv P H (gt b) (gt dl) m ∧ ∀ e, e < m → gt dl e = [])) (fun dv _ => (intOf dv + 1).toNat)
 case atStart => exact ⟨P.orders.length, _, rfl, Nat.le_refl _, hg1, hT, Lib.hid ⟨⟨fun e h1 h2 => by omega, fun e h1 h2 => by omega, fun e e' h1 h2 h3 => by omega⟩, fun e he => by simp [gt, he]⟩⟩
 case round =>
  clear hT
  obtain ⟨m, dl, rfl, hm, hg, hT, hC⟩ := hrel
  by_cases hm0 : m = 0
  ·subst hm0
   have hneg : ((0 : Nat) : Int) - 1 = -1 := rfl
   rw [hneg]
   have hend := G.can_end HI.out.1 hC.out.1
   rw [← sq_all] at hend
   have HE := Lib.hid hend; clear hend
   have hdl := hT.len
   have hrows := hT.rows (by omega)
   obtain ⟨wo, rfl⟩ : ∃ wo : World, wo = wr := ⟨_, rfl⟩
   go_wp2
   go_loopw [9, 10] (fun ov iv wr => ∃ (i : Nat) (v4 : Value), v4 = ov ∧ iv = .int .i64 i ∧ i ≤ P.orders.length ∧ Ext wo wr ∧ ShQ Av wo.heap.size wr v4 (seqOf i (gt dl))) (fun _ iv _ => P.orders.length - (intOf iv).toNat)
   case atStart => exact ⟨0, _, rfl, rfl, by omega, World.grownBy_alloc _ _ _, ShQ.lit _ _ _ (Nat.le_refl _)⟩
   case round =>
    obtain ⟨i, v4, rfl, rfl, hi, hgi, hQ⟩ := hrel
    by_cases hlt : i < P.orders.length
    ·have hlt' : (i : Int) < P.orders.length := by omega
     have hst := seqOf_succ i (gt dl)
     obtain ⟨_, hcc⟩ := hT.at i hlt
     rcases hcc with ⟨h0, hcell⟩ | ⟨hne, ab, capb, hcell, hbI⟩
     ·rw [if_pos h0, List.append_nil] at hst
      have HST := Lib.hid hst; clear hst h0
      have hcr := hgi.cell hcell (by simp)
      go_wp2
      go_roundw
      case rel => exact ⟨i + 1, v4, rfl, by go_num, by omega, hgi, by rw [HST.out]; exact hQ⟩
      case measure => simp [intOf]; omega
     ·rw [if_neg hne] at hst
      have hln : (0 : Int) < (gt dl i).length := by
       have : 0 < (gt dl i).length := List.length_pos_iff.2 hne
       omega
      have hsl := seqOf_len i (gt dl)
      have HST := Lib.hid hst; clear hst hne
      have hcr := hgi.cell hcell (by simp)
      have hrI : Ints (fun k => ¬ Av k ∧ v4.ownBlock ≠ some k) wr (.slice (some ab) (gt dl i).length capb) (gt dl i) := Ints.mono hbI (fun k hkb hk => ⟨⟨hkb.2, fun e => by have := (hQ.lt k e).1; omega⟩, Nat.lt_of_lt_of_le hk hgi.size, hgi.block k hk (by simp)⟩)
      go_wp2_with (first | (at_builtin; refine wp_shq_app rfl _ _ rfl Av wo.heap.size v4 _ (seqOf i (gt dl)) (gt dl i) rfl wr hQ rfl hrI rfl (by omega) hgi.size ?_; intro v5 w5 hQ5 hg5 hb5; have hgw5 := grown_own hgi hg5 (fun j hj hlt => by have := (hQ.lt j hj).1; omega)) | fail)
      go_roundw
      case rel => exact ⟨i + 1, v5, rfl, by go_num, by omega, hgw5, by rw [HST.out]; exact hQ5⟩
      case measure => simp [intOf]; omega
    ·have hie : i = P.orders.length := by omega
     subst hie
     rw [HE.out] at hQ
     obtain ⟨az, capz, hvz, _⟩ := hQ.shape
     subst hvz
     go_wp2
     go_ret
     exact ⟨_, rfl, grown_trans hg0 (grown_trans hg hgi), hQ.weak (grown_trans hg0 hg).size⟩
  ·obtain ⟨d, rfl⟩ : ∃ d, m = d + 1 := ⟨m - 1, by omega⟩
   rw [show (((d + 1 : Nat)) : Int) - 1 = d by omega]
   have hdn : d < P.orders.length := by omega
   have hdn' : (d : Int) < P.orders.length := by omega
   have hd0 : (0 : Int) ≤ d := by omega
   have hwd : IntKind.i64.wrap ((d : Int) - 1) = (d : Int) - 1 := IntWalk.i64_in _ (by omega)
   obtain ⟨bb, off, a2, cap2, hat, _, _, hc, hr⟩ := Rows2.at ht d (by rw [HI.out.2]; exact hdn)
   subst hat
   have hgw := grown_trans hg0 hg
   have hcr := hgw.cell hc (by simp)
   clear hc hm0
   by_cases hb : gt b d = []
   ·have hbl : ((((gt b d).length : Nat) : Int) == 0) = true := by rw [hb]; rfl
    have hC2 : CanInv P H (gt b) (gt dl) d := (can_skip (k := P.orders.length - (d + 1)) hC.out.1 hb).1.congr (fun e h1 h2 => by
     by_cases he : e = d
     ·subst he; rw [if_pos rfl]; exact hC.out.2 e (by omega)
     ·rw [if_neg he])
    have HC2 : Hid (CanInv P H (gt b) (gt dl) d ∧ ∀ e, e < d → gt dl e = []) := Lib.hid ⟨hC2, fun e he => hC.out.2 e (by omega)⟩
    clear hC2 hb
    go_wp2
    go_roundw
    case rel => exact ⟨d, dl, rfl, by omega, hg, hT, HC2⟩
    case measure => simp [intOf]
   ·have hbl : ((((gt b d).length : Nat) : Int) == 0) = false := by
     have : 0 < (gt b d).length := List.length_pos_iff.2 hb
     simp; omega
    have hXV : Vec P.orders (gt b d) := (HI.out.1.mem d hdn hb).2.1.1
    have hxI0 : Ints (fun k => k ≠ w.heap.size + 1 ∧ ¬ Av k) wr (.slice a2 (gt b d).length cap2) (gt b d) := Ints.mono hr (fun k hkS hk => ⟨⟨by omega, fun h => (hAv k h).2 hkS⟩, Nat.lt_of_lt_of_le hk hgw.size, hgw.block k hk (by simp)⟩)
    have HB := Lib.hid (And.intro hb hXV); clear hb hXV
    obtain ⟨wo, rfl⟩ : ∃ wo : World, wo = wr := ⟨_, rfl⟩
    go_wp2
    clear hbl hcr
    go_loopw [7, 8] (fun xv ev wr => ∃ (e : Nat) (Y : List Int), ev = .int .i64 e ∧ d + 1 ≤ e ∧ e ≤ P.orders.length ∧ Ext wo wr ∧ Ints (fun k => k ≠ w.heap.size + 1 ∧ ¬ Av k) wr xv Y ∧ Hid (FullTo P (gt dl) (d + 1) (gt b d) e Y)) (fun _ ev _ => P.orders.length - (intOf ev).toNat)
    case atStart => exact ⟨d + 1, _, by go_num, Nat.le_refl _, by omega, Ext.refl _, hxI0, Lib.hid (G.fullTo_zero HB.out.2)⟩
    case round =>
     clear hxI0
     obtain ⟨e, Y, rfl, hde, he, hge, hY, hF⟩ := hrel
     have hYV := hF.out.vec
     have hYl : Y.length = P.orders.length := hYV.1
     obtain ⟨ay, capy, hvy, _, _⟩ := hY.shape
     rw [hYl] at hvy
     subst hvy
     by_cases hlt : e < P.orders.length
     ·have hlt' : (e : Int) < P.orders.length := by omega
      have he0 : (0 : Int) ≤ e := by omega
      obtain ⟨by_, oy, rfl, _, _, hcy⟩ := Ints.at hY e (by omega)
      obtain ⟨_, hcc⟩ := hT.at e hlt
      rcases hcc with ⟨h0, hcell⟩ | ⟨hne, ab, capb, hcell, hbI⟩
      ·have hF2 := Lib.hid (hF.out.skip (.inl h0)); clear h0 hYV
       have hcr := hge.cell hcell (by simp)
       go_wp2
       go_roundw
       case rel => exact ⟨e + 1, Y, by go_num, by omega, by omega, hge, hY, hF2⟩
       case measure => simp [intOf]; omega
      ·have hln : (0 : Int) < (gt dl e).length := by
        have : 0 < (gt dl e).length := List.length_pos_iff.2 hne
        omega
       have hcr := hge.cell hcell (by simp)
       by_cases hy : gt Y e = 0
       ·have hyb : (gt Y e != 0) = false := by simp [hy]
        have hF2 := Lib.hid (hF.out.skip (.inr hy)); clear hYV hy hne
        go_wp2
        go_roundw
        case rel => exact ⟨e + 1, Y, by go_num, by omega, by omega, hge, hY, hF2⟩
        case measure => simp [intOf]; omega
       ·have hyb : (gt Y e != 0) = true := by simp [hy]
        have hyd := hYV.2 e hlt
        have ho := hP.ord7 e hlt
        have hwn : IntKind.i64.wrap (-(gt Y e)) = -(gt Y e) := IntWalk.i64_in _ (by omega)
        obtain ⟨_, m2, m3⟩ := hC.out.1.mem e (by omega) hlt hne
        have hF2 := Lib.hid (G.fullTo_step HB.out.2 (by omega) hlt hne ⟨m2, m3⟩ hF.out)
        have hpV := G.pwZ_vec m2.1 (-(gt Y e))
        have hpl : (pwZ P (gt dl e) (-(gt Y e))).length ≤ 6 := by rw [hpV.1]; omega
        have HD := Lib.hid (And.intro m2.1 (And.intro hpV (And.intro hpl (And.intro hYV (And.intro hyd ho))))); clear m2 m3 hpV hpl hYV hyd ho hne hy
        have hg0e := grown_trans hg hge
        have e1 : ∀ w', Ext wr w' → w'.cell? ⟨w.heap.size, 0, none⟩ = some vo6 := fun w' h => (grown_trans hg0e h).cell hc0 (by simp)
        have e2 : ∀ w', Ext wr w' → w'.cell? ⟨w.heap.size, 1, none⟩ = some vp6 := fun w' h => (grown_trans hg0e h).cell hc1 (by simp)
        have e3 : ∀ w', Ext wr w' → w'.cell? ⟨w.heap.size, 2, none⟩ = some vc6 := fun w' h => (grown_trans hg0e h).cell hc2 (by simp)
        have e4 : ∀ w', Ext wr w' → w'.cell? ⟨w.heap.size + 1, e, none⟩ = some (.slice (some ab) (gt dl e).length capb) := fun w' h => h.cell hcr (by simp)
        have e5 : ∀ w', Ext wr w' → w'.cell? ⟨by_, oy + e, none⟩ = some (.int .i64 (gt Y e)) := fun w' h => h.cell hcy (by simp)
        go_wp2
        clear hcr hcy hcell
        go_region_held3 (fun w' => Ext wr w') (first | exact grown_drew _ _ | assumption)
         (first
          | (go_at_call 319; refine Calls.mono (Calls.rel (w0 := wr) (by assumption) (l10Pow_ok P G _ _ _ (gt dl e) _ Any Any ⟨_, _, _, rfl, Pres3.ext (Pres3.ext h36 hg0e) (by assumption)⟩ (Ints.sub (Ints.ext (Ints.ext hbI hge) (by assumption)) (fun _ _ _ => trivial)) HD.out.1 (by have := HD.out.2.2.2.2.1; have := HD.out.2.2.2.2.2; omega))) ?_; rintro eA wA ⟨vA, rfl, hgA, hsA, hOA⟩; have hOA2 := hOA.ints (by have := HD.out.2.2.1; omega))
          | (go_at_call 211; refine Calls.mono (Calls.rel (w0 := wr) (by assumption) (l08Mul_ok P hP _ _ _ _ Y _ Any Any Any ⟨_, _, _, rfl, Pres3.ext (Pres3.ext h36 hg0e) (by assumption)⟩ (Ints.sub (Ints.ext hY (by assumption)) (fun _ _ _ => trivial)) hOA2 HD.out.2.2.2.1 HD.out.2.1)) ?_; rintro eB wB ⟨vB, rfl, hgB, hsB, hOB⟩))
        clear e1 e2 e3 e4 e5
        have hYB : Ints (fun k => k ≠ w.heap.size + 1 ∧ ¬ Av k) wB vB (rMul P Y (pwZ P (gt dl e) (-(gt Y e)))) := ints_of_own hOB (by rw [hF2.out.vec.1]; omega) (fun k hk => by have h1 := (hOB.lt k hk).1; have := hT.lt; have := hge.size; exact ⟨by omega, fun h => by have := (hAv k h).1; have := hg0.size; have := hg.size; omega⟩)
        go_wp2
        go_roundw
        case rel => exact ⟨e + 1, _, by go_num, by omega, by omega, grown_trans hge hgB, hYB, hF2⟩
        case measure => simp [intOf]; omega
     ·have hee : e = P.orders.length := by omega
      subst hee
      have hYne : Y ≠ [] := fun h => by rw [h] at hYl; simp at hYl; omega
      have hTr := hT.ext hge
      obtain ⟨hs5, hg5⟩ := hTr.put d (u := .slice ay P.orders.length capy) (y := Y) (Ints.sub hY (fun k hk _ => hk)) hYne
      obtain ⟨hfr, hcc⟩ := hTr.at d hdn
      have hcd : wr.cell? ⟨w.heap.size + 1, d, none⟩ = some (.slice none 0 0) := hcc.elim (fun h => h.2) (fun h => absurd (hC.out.2 d (by omega)) h.1)
      have hst := (G.can_step (k := P.orders.length - (d + 1)) HI.out.1 hC.out.1 (by omega) HB.out.1 (hF.out.repTo hC.out.1 (by omega))).1
      have hC2 : CanInv P H (gt b) (gt (dl.set d Y)) d := hst.congr (fun i h1 h2 => by
       by_cases hi : i = d
       ·subst hi; rw [if_pos rfl, gt_set_eq _ _ _ (by rw [hT.len]; omega)]
       ·rw [if_neg hi, gt_set_ne _ _ _ _ (fun h => hi h.symm)])
      have HC2 : Hid (CanInv P H (gt b) (gt (dl.set d Y)) d ∧ ∀ i, i < d → gt (dl.set d Y) i = []) := Lib.hid ⟨hC2, fun i hi => by rw [gt_set_ne _ _ _ _ (by omega)]; exact hC.out.2 i (by omega)⟩
      have hg0n : Ext w0 (wr.setCell ⟨w.heap.size + 1, d, none⟩ (.slice ay P.orders.length capy)) := grown_own (grown_trans hg hge) hg5 (fun j hj hlt => by cases hj; have := HS.out; omega)
      clear hcc hst hC2 hYV hTr hg5
      go_wp2
      go_roundw
      case rel => exact ⟨d, dl.set d Y, rfl, by omega, hg0n, hs5, HC2⟩
      case measure => simp [intOf]
end Go.Proofs.YtmjkoejegfjbbaaGreat
namespace Go.Proofs.YtmjkoejegfjbbaaGreat
open Go.RowKit
set_option maxRecDepth 100000 in
set_option maxHeartbeats 2000000 in
theorem l12Strip_ok (P : Pr) (G : Grp P) (w : World) (pv tv xv : Value) (b : List (List Int)) (X : List Int) (Sp Sb Sx : Nat → Prop) (hpv : PresV Sp w pv P) (ht : Rows2 Sb w tv b) (hx : Ints Sx w xv X) (hX : Vec P.orders X)
  (hlb : b.length = P.orders.length) (htab : ∀ d, d < P.orders.length → gt b d ≠ [] → T P d (gt b d) ∧ gt (gt b d) d = 1) :
  Calls Tryz.prog 377 #[pv, tv, xv] w (Ret w fun w' v => ∃ (d : Nat) (r : Value) (Y : List Int), v = .tuple #[.int .i64 d, r] ∧ Own w.heap.size w' r Y ∧ StripTo P b X d Y ∧ d ≤ P.orders.length ∧ (d < P.orders.length → gt Y d ≠ 0 ∧ gt b d = [])) := by
 have hP := G.v
 have hn6 := hP.n6
 obtain ⟨vo, vp, vc, rfl, h3⟩ := hpv
 have hp0 := PresP.box h3 39
 have hg0 : Ext w (w.alloc (.cells #[vo, vp, vc] 39)) := World.grownBy_alloc _ _ _
 have hx0 := hx.ext hg0
 have ht0 := Rows2.ext ht hg0
 have hXl : X.length ≤ 6 := by rw [hX.1]; omega
 have hs0 : (w.alloc (.cells #[vo, vp, vc] 39)).heap.size = w.heap.size + 1 := by simp
 obtain ⟨at_, capt, hvt, _, _⟩ := Sl.shape ht
 rw [hlb] at hvt
 subst hvt
 have HI := Lib.hid (And.intro htab (And.intro hX hlb)); clear htab hX hlb
 obtain ⟨vo6, vp6, vc6, _, _, hc0, hc1, hc2, h36⟩ := hp0.at
 simp only [Nat.zero_add] at hc1 hc2
 clear hp0
 go_enter Tryz.func377, Tryz.ntmps377
 go_wp2_with fail
 have HS := Lib.hid hs0; clear hs0
 generalize hw0 : w.alloc (.cells #[vo, vp, vc] 39) = w0 at *
 clear hw0
 refine Calls.mono (l01Own_ok w0 xv X Sx hx0 (by omega)) ?_
 rintro e1 w1 ⟨ov, rfl, hg1, hO1⟩
 go_wp2
 go_loopw [8, 9] (fun ov iv wr => ∃ (d : Nat) (Y : List Int), iv = .int .i64 d ∧ d ≤ P.orders.length ∧ Ext w0 wr ∧ Own w.heap.size wr ov Y ∧ Hid (StripTo P b X d Y)) (fun _ iv _ => P.orders.length - (intOf iv).toNat)
 case atStart => exact ⟨0, X, rfl, by omega, hg1, hO1.weak (by have := HS.out; omega), Lib.hid (stripTo_zero HI.out.2.1)⟩
 case round =>
  clear hO1
  obtain ⟨d, Y, rfl, hd, hg, hO, hR⟩ := hrel
  have hYV := hR.out.vec.1
  have hYl : Y.length = P.orders.length := hYV.1
  have hYi := hO.ints (by omega)
  obtain ⟨ay, capy, hvy, _, _⟩ := hYi.shape
  rw [hYl] at hvy
  subst hvy
  by_cases hlt : d < P.orders.length
  ·have hlt' : (d : Int) < P.orders.length := by omega
   obtain ⟨bb, off, a2, cap2, rfl, _, _, hc, hr⟩ := Rows2.at (Rows2.ext ht0 hg) d (by rw [HI.out.2.2]; exact hlt)
   obtain ⟨by_, oy, rfl, _, _, hcy⟩ := Ints.at hYi d (by omega)
   by_cases hy : gt Y d = 0
   ·have hyb : (gt Y d == 0) = true := by simp [hy]
    have hR2 := Lib.hid (hR.out.skip hy); clear hYV hy
    go_wp2
    go_roundw
    case rel => exact ⟨d + 1, Y, by go_num, by omega, hg, hO, hR2⟩
    case measure => simp [intOf]; omega
   ·have hyb : (gt Y d == 0) = false := by simp [hy]
    by_cases hb : gt b d = []
    ·have hbl : ((((gt b d).length : Nat) : Int) == 0) = true := by rw [hb]; rfl
     have HB := Lib.hid (And.intro hb hy); clear hb hYV hy
     go_wp2
     go_ret2
     exact ⟨_, rfl, grown_trans hg0 hg, d, _, Y, rfl, hO, hR.out, by omega, fun _ => ⟨HB.out.2, HB.out.1⟩⟩
    ·have hbl : ((((gt b d).length : Nat) : Int) == 0) = false := by
      have : 0 < (gt b d).length := List.length_pos_iff.2 hb
      simp; omega
     have hyd := hYV.2 d hlt
     have ho := hP.ord7 d hlt
     have hwn : IntKind.i64.wrap (-(gt Y d)) = -(gt Y d) := IntWalk.i64_in _ (by omega)
     obtain ⟨m2, m3⟩ := HI.out.1 d hlt hb
     have hR2 := Lib.hid (G.stripTo_step hlt hb ⟨m2, m3⟩ hy hR.out)
     have hpV := G.pwZ_vec m2.1 (-(gt Y d))
     have hpl : (pwZ P (gt b d) (-(gt Y d))).length ≤ 6 := by rw [hpV.1]; omega
     have HB := Lib.hid (And.intro m2.1 (And.intro hpV (And.intro hpl (And.intro hYV (And.intro hyd ho))))); clear m2 m3 hpV hpl hYV hyd ho hb hy
     have e1 : ∀ w', Ext wr w' → w'.cell? ⟨w.heap.size, 0, none⟩ = some vo6 := fun w' h => (grown_trans hg h).cell hc0 (by simp)
     have e2 : ∀ w', Ext wr w' → w'.cell? ⟨w.heap.size, 1, none⟩ = some vp6 := fun w' h => (grown_trans hg h).cell hc1 (by simp)
     have e3 : ∀ w', Ext wr w' → w'.cell? ⟨w.heap.size, 2, none⟩ = some vc6 := fun w' h => (grown_trans hg h).cell hc2 (by simp)
     have e4 : ∀ w', Ext wr w' → w'.cell? ⟨bb, off + d, none⟩ = some (.slice a2 (gt b d).length cap2) := fun w' h => h.cell hc (by simp)
     have e5 : ∀ w', Ext wr w' → w'.cell? ⟨by_, oy + d, none⟩ = some (.int .i64 (gt Y d)) := fun w' h => h.cell hcy (by simp)
     go_wp2
     clear hc hcy
     go_region_held3 (fun w' => Ext wr w') (first | exact grown_drew _ _ | assumption)
      (first
       | (go_at_call 319; refine Calls.mono (Calls.rel (w0 := wr) (by assumption) (l10Pow_ok P G _ _ _ (gt b d) _ Any Any ⟨_, _, _, rfl, Pres3.ext (Pres3.ext h36 hg) (by assumption)⟩ (Ints.sub (Ints.ext hr (by assumption)) (fun _ _ _ => trivial)) HB.out.1 (by have := HB.out.2.2.2.2.1; have := HB.out.2.2.2.2.2; omega))) ?_; rintro eA wA ⟨vA, rfl, hgA, hsA, hOA⟩; have hOA2 := hOA.ints (by have := HB.out.2.2.1; omega))
       | (go_at_call 211; refine Calls.mono (Calls.rel (w0 := wr) (by assumption) (l08Mul_ok P hP _ _ _ _ Y _ Any Any Any ⟨_, _, _, rfl, Pres3.ext (Pres3.ext h36 hg) (by assumption)⟩ (Ints.sub (Ints.ext hYi (by assumption)) (fun _ _ _ => trivial)) hOA2 HB.out.2.2.2.1 HB.out.2.1)) ?_; rintro eB wB ⟨vB, rfl, hgB, hsB, hOB⟩))
     clear e1 e2 e3 e4 e5
     go_wp2
     go_roundw
     case rel => exact ⟨d + 1, _, by go_num, by omega, grown_trans hg hgB, hOB.weak (by have := hg.size; have := HS.out; omega), hR2⟩
     case measure => simp [intOf]; omega
  ·have hde : d = P.orders.length := by omega
   subst hde
   go_wp2
   go_ret2
   exact ⟨_, rfl, grown_trans hg0 hg, _, _, Y, rfl, hO, hR.out, by omega, fun h => absurd h (by omega)⟩
end Go.Proofs.YtmjkoejegfjbbaaGreat
namespace Go.Proofs.YtmjkoejegfjbbaaGreat
theorem Grp.subB {P : Pr} (G : Grp P) {u : List (List Int)} (h : SubB P u) : Sub P (genP P (fun x => x ∈ u)) := G.genP_sub h.1
end Go.Proofs.YtmjkoejegfjbbaaGreat
namespace Go.Proofs.YtmjkoejegfjbbaaGreat
open Go.RowKit
theorem run_head_rows (w : World) (a : Option Addr) (n cap : Nat) (k : Int) (h0 : 0 ≤ k) (h1 : k ≤ cap) :
  (Instr.slice 32 (.slice a n cap) none (some (.int .i64 k)) none).run Tryz.prog w = .ok (.slice a k.toNat cap) w := by
 rw [run_slice_h w 32 a n cap (by kernel_rfl) .i64 k h0 h1]
 have : (sizeOf (Tryz.prog.elem 32)).run Tryz.prog w = .ok 1 w := by kernel_rfl
 rw [this]
 cases a with
 | none => simp [Result.andThen, sliced]
 | some a => simp [Result.andThen, sliced, Addr.add]
theorem QOwn.init {B E n cap : Nat} {w : World} {a : Option Addr} {x : Value} {vs : List Value} (h : QOwn B E w (.slice a n cap) (vs ++ [x])) : QOwn B E w (.slice a vs.length cap) vs := by
 rcases h with ⟨_, h⟩ | ⟨g, off, cap', cur, hv, hb, hg, h1, h2, h3, h4⟩
 ·simp at h
 ·simp only [Value.slice.injEq] at hv
  obtain ⟨rfl, rfl, rfl⟩ := hv
  simp only [List.length_append, List.length_singleton] at h1 h4
  exact .inr ⟨g, off, cap, cur, rfl, hb, hg, by omega, h2, h3, fun i hi => by rw [h4 i (by omega), gt_append_left _ _ _ hi]⟩
theorem ShQ.init {bad : Nat → Prop} {B n cap : Nat} {w : World} {a : Option Addr} {x : List Int} {xs : List (List Int)} (h : ShQ bad B w (.slice a n cap) (xs ++ [x])) : ShQ bad B w (.slice a xs.length cap) xs := by
 obtain ⟨vs, hl, hq, hr⟩ := h
 obtain ⟨ws, u, rfl⟩ : ∃ ws u, vs = ws ++ [u] := by
  refine ⟨vs.dropLast, vs.getLast (fun e => by rw [e] at hl; simp at hl), (List.dropLast_concat_getLast _).symm⟩
 have hl2 : ws.length = xs.length := by simpa using hl
 refine ⟨ws, hl2, by rw [← hl2]; exact hq.init, fun i hi => ?_⟩
 have h2 := hr i (by simp; omega)
 rw [gt_append_left _ _ _ (by omega), gt_append_left _ _ _ hi] at h2
 exact Ints.sub h2 (fun k hk _ => ⟨hk.1, fun e => hk.2 (by cases a <;> exact e)⟩)
set_option maxHeartbeats 1000000 in
theorem l01Own2_ok (w : World) (v : Value) (L : List (List Int)) (S : Nat → Prop) (hv : Rows2 S w v L) (hL : ∀ x ∈ L, x.length ≤ 1000000) (hlen : L.length ≤ 1000000) :
  Calls Tryz.prog 323 #[v] w (Ret w fun w' r => RowsO w.heap.size w' r L) := by
 obtain ⟨a, cap, rfl, _, _⟩ := Sl.shape hv
 have HL := Lib.hid hL; clear hL
 go_enter Tryz.func323, Tryz.ntmps323
 go_wp2
 go_loopw [3, 4] (fun ov iv wr => ∃ (i : Nat) (v4 : Value), v4 = ov ∧ iv = .int .i64 i ∧ i ≤ L.length ∧ Ext w wr ∧ RowsO w.heap.size wr v4 (L.take i)) (fun _ iv _ => L.length - (intOf iv).toNat)
 case atStart => exact ⟨0, _, rfl, rfl, by omega, World.grownBy_alloc _ _ _, [], fun _ _ => False, rfl, World.ownsRow_lit w #[] 0 (Nat.le_refl _) (by decide) rfl, by simp, by simp, by simp⟩
 case round =>
  obtain ⟨i, v4, rfl, rfl, hi, hg, hO⟩ := hrel
  by_cases hlt : i < L.length
  ·have hlt' : (i : Int) < L.length := by omega
   obtain ⟨b, off, a2, cap2, rfl, _, _, hc, hr⟩ := Rows2.at (Rows2.ext hv hg) i hlt
   have hstep := take_succ_gt L i hlt
   have hll := HL.out _ (gtMem hlt)
   have htl : (L.take i).length ≤ 1000000 := by rw [List.length_take]; omega
   have HST := Lib.hid (And.intro hstep hll); clear hstep hll
   go_wp2_with fail
   refine Calls.mono (l01Own_ok wr _ (gt L i) _ hr (by have := HST.out.2; omega)) ?_
   rintro eC wC ⟨vC, rfl, hgC, hOC⟩
   have hYO : OwnIn (From wr.heap.size) wC vC (gt L i) := OwnIn.of hOC (by have := HST.out.2; omega) (fun j h1 _ => h1)
   obtain ⟨ay, capy, hvy, _, _⟩ := hYO.ints.shape
   subst hvy
   clear hc
   go_wp2_with (first | (at_builtin; refine wp_app_row rfl _ _ rfl w.heap.size wr wC v4 _ (L.take i) (gt L i) rfl hO hgC hYO rfl rfl htl hg.size ?_; intro v5 w5 hO5 hg5 hg6; have hgw5 := hO.extw hg (Nat.le_refl _) hg5) | fail)
   go_roundw
   case rel => exact ⟨i + 1, v5, rfl, by go_num, by omega, hgw5, by rw [HST.out.1]; exact hO5⟩
   case measure => simp [intOf]; omega
  ·have hie : i = L.length := by omega
   subst hie
   rw [List.take_length] at hO
   obtain ⟨az, capz, hvz, _, _⟩ := SlD.shape (hO.toD (by omega))
   subst hvz
   go_wp2
   go_ret
   exact ⟨_, rfl, hg, hO⟩
set_option maxRecDepth 100000 in
set_option maxHeartbeats 2000000 in
theorem l10Comm_ok (P : Pr) (G : Grp P) (w : World) (pv a b : Value) (A B : List Int) (Sp Sa Sb : Nat → Prop) (hp : PresV Sp w pv P) (ha : Ints Sa w a A) (hb : Ints Sb w b B) (hA : Vec P.orders A) (hB : Vec P.orders B) :
  Calls Tryz.prog 321 #[pv, a, b] w (Ret w fun w' v => Own w.heap.size w' v (comR P A B)) := by
 have hP := G.v
 obtain ⟨vo, vp, vc, rfl, h3⟩ := hp
 have hn6 := hP.n6
 have hV1 := G.mulV hB hA
 have hV2 := G.invV hV1
 have hV3 := G.mulV hA hB
 have HV := Lib.hid (And.intro hV1 (And.intro hV2 hV3)); clear hV1 hV2 hV3
 have hg0 : Ext w (w.alloc (.cells #[vo, vp, vc] 39)) := World.grownBy_alloc _ _ _
 have hBx := PresP.box h3 39
 have ha0 := ha.ext hg0
 have hb0 := hb.ext hg0
 have hs0 : (w.alloc (.cells #[vo, vp, vc] 39)).heap.size = w.heap.size + 1 := by simp
 have HS := Lib.hid hs0; clear hs0 ha hb
 go_enter Tryz.func321, Tryz.ntmps321
 go_wp2
 generalize hw0 : w.alloc (.cells #[vo, vp, vc] 39) = w0 at *
 clear hw0
 obtain ⟨vo6, vp6, vc6, _, _, hc0, hc1, hc2, h36⟩ := hBx.at
 have e1 : ∀ w', Ext w0 w' → w'.cell? ⟨w.heap.size, 0, none⟩ = some vo6 := fun w' h => h.cell hc0 (by simp)
 have e2 : ∀ w', Ext w0 w' → w'.cell? ⟨w.heap.size, 1, none⟩ = some vp6 := fun w' h => h.cell (by simpa using hc1) (by simp)
 have e3 : ∀ w', Ext w0 w' → w'.cell? ⟨w.heap.size, 2, none⟩ = some vc6 := fun w' h => h.cell (by simpa using hc2) (by simp)
 clear hc0 hc1 hc2
 go_region_held3 (fun w' => Ext w0 w') (first | exact grown_drew _ _ | assumption)
  (first
   | (revert hOF2; intro hOF2; go_at_call 211; refine Calls.mono (Calls.rel (w0 := w0) (by assumption) (l08Mul_ok P hP _ _ _ _ _ _ Any Any Any ⟨_, _, _, rfl, Pres3.ext h36 (by assumption)⟩ hOB2 hOF2 HV.out.2.1 HV.out.2.2)) ?_; rintro eC wC ⟨vC, rfl, hgC, hsC, hOC⟩)
   | (revert hOB; intro hOB; go_at_call 211; refine Calls.mono (Calls.rel2 (w0 := w0) (by assumption) (l08Mul_ok P hP _ _ _ _ A B Any Sa Sb ⟨_, _, _, rfl, Pres3.ext h36 (by assumption)⟩ (Ints.ext ha0 (by assumption)) (Ints.ext hb0 (by assumption)) hA hB)) ?_; rintro eF wF ⟨vF, rfl, hgF, hgF2, hsF, hOF⟩; have hOB2 := (hOB.ext0 hgF2).ints (by rw [HV.out.2.1.1]; omega); have hOF2 := hOF.ints (by rw [HV.out.2.2.1]; omega))
   | (go_at_call 140; refine Calls.mono (Calls.rel (w0 := w0) (by assumption) (l10Inv_ok P hP _ _ _ _ Any Any ⟨_, _, _, rfl, Pres3.ext h36 (by assumption)⟩ hOA2 HV.out.1)) ?_; rintro eB wB ⟨vB, rfl, hgB, hsB, hOB⟩)
   | (go_at_call 211; refine Calls.mono (Calls.rel (w0 := w0) (by assumption) (l08Mul_ok P hP _ _ _ _ B A Any Sb Sa ⟨_, _, _, rfl, Pres3.ext h36 (by assumption)⟩ (Ints.ext hb0 (by assumption)) (Ints.ext ha0 (by assumption)) hB hA)) ?_; rintro eA wA ⟨vA, rfl, hgA, hsA, hOA⟩; have hOA2 := hOA.ints (by rw [HV.out.1.1]; omega)))
 clear e1 e2 e3
 go_wp2
 go_ret
 exact ⟨_, rfl, grown_trans hg0 hgC, hOC.weak (by have := HS.out; omega)⟩
theorem l01Mod_ok (a m : Int) (w : World) (h1 : 0 ≤ a) (h2 : a < m) :
  Calls Tryz.prog 417 #[.int .i64 a, .int .i64 m] w fun e w' => e = .returned (.int .i64 a) ∧ w = w' := by
 have e1 : a.tmod m = a := Int.tmod_eq_of_lt h1 h2
 have hm0 : m ≠ 0 := by omega
 have hmb : (m == 0) = false := by simp; omega
 go_enter Tryz.func417, Tryz.ntmps417
 go_wp2
 go_ret
 exact ⟨rfl, rfl⟩
theorem inv_ex {a m : Int} (hm : m = 2 ∨ m = 3 ∨ m = 5 ∨ m = 7) (h1 : 1 ≤ a) (h2 : a < m) : ∃ y : Int, 1 ≤ y ∧ y < m ∧ (a * y) % m = 1 := by
 rcases hm with rfl | rfl | rfl | rfl
 ·have : a = 1 := by omega
  subst this; exact ⟨1, by decide, by decide, by decide⟩
 ·rcases (show a = 1 ∨ a = 2 by omega) with rfl | rfl
  ·exact ⟨1, by decide, by decide, by decide⟩
  ·exact ⟨2, by decide, by decide, by decide⟩
 ·rcases (show a = 1 ∨ a = 2 ∨ a = 3 ∨ a = 4 by omega) with rfl | rfl | rfl | rfl
  ·exact ⟨1, by decide, by decide, by decide⟩
  ·exact ⟨3, by decide, by decide, by decide⟩
  ·exact ⟨2, by decide, by decide, by decide⟩
  ·exact ⟨4, by decide, by decide, by decide⟩
 ·rcases (show a = 1 ∨ a = 2 ∨ a = 3 ∨ a = 4 ∨ a = 5 ∨ a = 6 by omega) with rfl | rfl | rfl | rfl | rfl | rfl
  ·exact ⟨1, by decide, by decide, by decide⟩
  ·exact ⟨4, by decide, by decide, by decide⟩
  ·exact ⟨5, by decide, by decide, by decide⟩
  ·exact ⟨2, by decide, by decide, by decide⟩
  ·exact ⟨3, by decide, by decide, by decide⟩
  ·exact ⟨6, by decide, by decide, by decide⟩
set_option maxHeartbeats 1000000 in
theorem l01Inv_ok (a m : Int) (w : World) (hm : m = 2 ∨ m = 3 ∨ m = 5 ∨ m = 7) (h1 : 1 ≤ a) (h2 : a < m) :
  Calls Tryz.prog 378 #[.int .i64 a, .int .i64 m] w (Ret w fun _ v => ∃ k : Int, v = .int .i64 k ∧ 0 ≤ k ∧ k < m ∧ (k * a) % m = 1) := by
 have hex := inv_ex hm h1 h2
 have HE := Lib.hid hex; clear hex
 have hm7 : 2 ≤ m ∧ m ≤ 7 := by omega
 obtain ⟨hm2, hm7⟩ := hm7
 clear hm
 have hcon := l01Mod_ok a m w (by omega) h2
 go_enter Tryz.func378, Tryz.ntmps378
 go_wp2
 go_loopw [5] (fun xv wr => ∃ x : Int, xv = .int .i64 x ∧ 1 ≤ x ∧ x ≤ m ∧ w = wr ∧ Hid (∀ y, 1 ≤ y → y < x → (a * y) % m ≠ 1)) (fun xv _ => (m - intOf xv).toNat)
 case atStart => exact ⟨1, rfl, by omega, by omega, rfl, Lib.hid (fun y h1 h2 => by omega)⟩
 case round =>
  obtain ⟨x, rfl, hx1, hxm, rfl, hN⟩ := hrel
  by_cases hlt : x < m
  ·have hax0 : 0 ≤ a * x := Int.mul_nonneg (by omega) (by omega)
   have hax : a * x ≤ 7 * 7 := Int.mul_le_mul (by omega) (by omega) (by omega) (by omega)
   have e1 : IntKind.i64.wrap (a * x) = a * x := IntWalk.i64_in _ (by omega)
   have e2 : (a * x).tmod m = (a * x) % m := Int.tmod_eq_emod_of_nonneg hax0
   have hm0 : (m == 0) = false := by simp; omega
   by_cases hq : (a * x) % m = 1
   ·have hb : ((a * x) % m == 1) = true := by simp [hq]
    have hq2 : (x * a) % m = 1 := by rw [Int.mul_comm]; exact hq
    have HQ := Lib.hid hq2; clear hq hq2
    go_wp2_with fail
    refine Calls.mono hcon ?_
    rintro e5 w5 ⟨rfl, rfl⟩
    clear hcon
    go_wp2
    go_ret
    exact ⟨_, rfl, Ext.refl _, x, rfl, by omega, hlt, HQ.out⟩
   ·have hb : ((a * x) % m == 1) = false := by simp [hq]
    have HQ := Lib.hid hq; clear hq
    go_wp2_with fail
    refine Calls.mono hcon ?_
    rintro e5 w5 ⟨rfl, rfl⟩
    clear hcon
    go_wp2
    go_roundw
    case rel => exact ⟨x + 1, by go_num, by omega, by omega, trivial, Lib.hid (fun y h1 h2 => by
     by_cases hy : y = x
     ·rw [hy]; exact HQ.out
     ·exact hN.out y h1 (by omega))⟩
    case measure => simp [intOf]; omega
  ·obtain ⟨y, h1, h2, h3⟩ := HE.out
   exact absurd h3 (hN.out y h1 (by omega))
end Go.Proofs.YtmjkoejegfjbbaaGreat
