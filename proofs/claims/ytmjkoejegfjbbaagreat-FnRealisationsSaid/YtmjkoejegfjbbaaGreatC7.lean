/-
  Plain: a level without a fault makes the tail before it a group; so the two sides' words 'consistent' agree, and in a consistent presentation the two products.
  Plain: the two sides' inverses and conjugates in a consistent presentation.
  Plain: subgroups of a consistent presentation; what a table by depths must hold so that its products are a subgroup.
  Plain: the canonical sequence of a subgroup is one: a table that is reduced is determined by the subgroup; so are representatives of cosets.
  Plain: what holds while a table by depths grows: each element that was looked at is neutral, waits in the queue, or is led deeper by the table.
  Plain: depths; every subgroup has a canonical sequence, and every element a representative.
-/
import Derived.Test.YtmjkoejegfjbbaaGreatC6
namespace Go.Proofs.YtmjkoejegfjbbaaGreat
section
variable {P : Pr} {f i : Nat}
def prV (i : Nat) (p : Nat × List Int) : List Int := p.2.set i (p.1 : Int)
theorem prV_T (hP : Valid P) (hi : i < P.orders.length) {p : Nat × List Int} (hp : ExS (T P (i + 1)) (gt P.orders i).toNat p) : T P i (prV i p) := by
 have ho := hP.ord7 i hi
 have h1 := hp.1
 exact hp.2.put ⟨by omega, fun _ => by omega⟩
theorem prV_sur (hP : Valid P) (hi : i < P.orders.length) {x : List Int} (hx : T P i x) : ∃ p, ExS (T P (i + 1)) (gt P.orders i).toNat p ∧ prV i p = x := by
 have ho := hP.ord7 i hi
 have hxi := hx.1.2 i hi
 refine ⟨((gt x i).toNat, x.set i 0), ⟨by show (gt x i).toNat < _; omega, hx.drop hP hi⟩, ?_⟩
 unfold prV
 simp only [List.set_set]
 refine ext_gt (by simp) (fun k hk => ?_)
 rw [List.length_set] at hk
 rw [gt_set_if _ _ _ _ hk]
 split
 ·rename_i h; subst h; omega
 ·rfl
theorem set_zero_of {x : List Int} (h : T P (i + 1) x) : x.set i 0 = x := by
 refine ext_gt (by simp) (fun k hk => ?_)
 rw [List.length_set] at hk
 rw [gt_set_if _ _ _ _ hk]
 split
 ·rename_i e; subst e; exact (h.2 i (by omega)).symm
 ·rfl
theorem prV_mul (hP : Valid P) (hi : i + (f + 1) = P.orders.length) (p q : Nat × List Int) (hp : ExS (T P (i + 1)) (gt P.orders i).toNat p) (hq : ExS (T P (i + 1)) (gt P.orders i).toNat q) :
  rAt P (f + 1) i (prV i p) (prV i q) = prV i (exm (rAt P f (i + 1)) (rImage P f i) (gt P.powers i) (gt P.orders i).toNat p q) := by
 obtain ⟨a, x⟩ := p
 obtain ⟨b, y⟩ := q
 obtain ⟨ha, hx⟩ := hp
 obtain ⟨hb, hy⟩ := hq
 simp only at ha hb hx hy
 have ho := hP.ord7 i (by omega)
 have ga : gt (prV i (a, x)) i = (a : Int) := gt_set_eq _ _ _ (by show i < x.length; rw [hx.1.1]; omega)
 have gb : gt (prV i (b, y)) i = (b : Int) := gt_set_eq _ _ _ (by show i < y.length; rw [hy.1.1]; omega)
 have sa : (prV i (a, x)).set i 0 = x := by unfold prV; rw [List.set_set]; exact set_zero_of hx
 have sb : (prV i (b, y)).set i 0 = y := by unfold prV; rw [List.set_set]; exact set_zero_of hy
 simp only [rAt, ga, gb, sa, sb]
 unfold exm
 simp only
 have him : (fun l => rImgTo (rAt P f (i + 1)) (gt P.conj i) i l (zeros P.orders.length) f) = rImage P f i := rfl
 rw [him, show ((b : Int)).toNat = b by omega]
 by_cases hc : (gt P.orders i).toNat ≤ a + b
 ·rw [if_pos (by omega), if_pos hc]
  unfold prV
  simp only
  congr 1
  omega
 ·rw [if_neg (by omega), if_neg hc]
  unfold prV
  simp only
  congr 1
theorem Lvl.ext (hP : Valid P) (hi : i + (f + 1) = P.orders.length) (L : Lvl P f (i + 1)) (R : RLevel P f i) :
  ExtOk (T P (i + 1)) (rAt P f (i + 1)) (zeros P.orders.length) (rImage P f i) (gt P.powers i) (gt P.orders i).toNat ∧
   ∀ j, i < j → j < P.orders.length → rImage P f i (unitV P.orders.length j) = gt (gt P.conj i) (j - i - 1) := by
 have M := L.grp.toMonOn
 have ho := hP.ord7 i (by omega)
 have hf : P.orders.length - (i + 1) = f := by omega
 have hmem : ∀ j, i + 1 ≤ j → j < P.orders.length → T P (i + 1) (gt (gt P.conj i) (j - i - 1)) := fun j a b => cj_T hP (by omega) b
 have hImg : ∀ x, rImage P f i x = npr (rAt P f (i + 1)) (fun j => gt (gt P.conj i) (j - i - 1)) x (i + 1) (zeros P.orders.length) f := fun x => by
  unfold rImage npr; rw [rImgTo_acc]
 have hImgAt : ∀ (j : Nat) (x : List Int), i < j → j < P.orders.length → ZeroTo j x → rImage P f i x = npr (rAt P f (i + 1)) (fun j => gt (gt P.conj i) (j - i - 1)) x (j + 1) (zeros P.orders.length) (P.orders.length - (j + 1)) := fun j x a b hz => by
  rw [hImg]
  unfold npr
  rw [show f = (j - i) + (P.orders.length - (j + 1)) by omega, acc_split, acc_zero _ _ _ _ (j - i) (fun k _ c => hz k (by omega)), show i + 1 + (j - i) = j + 1 by omega]
 have H : Holds P (T P (i + 1)) (rAt P f (i + 1)) (zeros P.orders.length) (fun j => gt (gt P.conj i) (j - i - 1)) (i + 1) := by
  refine ⟨hmem, fun j a b => ?_, fun j k a b c => ?_⟩
  ·have h := R.c1 j (by omega) b
   unfold RCond1 at h
   rw [L.rRep_eq (hmem j a b), hImgAt j _ (by omega) b (hP.pv j b).2] at h
   exact h
  ·have h := R.c2 j k (by omega) b c
   unfold RCond2 at h
   rw [hImgAt j _ (by omega) (by omega) ((hP.cv j (by omega)).2 (k - j - 1) (by omega)).2] at h
   exact h
 have hom : ∀ A B, Vec P.orders A → Vec P.orders B → rImage P f i (rAt P f (i + 1) A B) = rAt P f (i + 1) (rImage P f i A) (rImage P f i B) := fun A B hA hB => by
  rw [hImg, hImg, hImg]
  exact vd_at hP M f (i + 1) (by omega) H A B hA hB
 have hunit : ∀ j, i < j → j < P.orders.length → rImage P f i (unitV P.orders.length j) = gt (gt P.conj i) (j - i - 1) := fun j a b => by
  rw [hImg]
  unfold npr
  rw [show f = (j - (i + 1)) + ((P.orders.length - (j + 1)) + 1) by omega, acc_split, acc_zero _ _ _ _ (j - (i + 1)) (fun k _ c => by rw [gt_unit _ _ _ (by omega), if_neg (by omega)]), acc_front, show i + 1 + (j - (i + 1)) = j by omega,
   acc_zero _ _ (j + 1) _ _ (fun k c d => by rw [gt_unit _ _ _ (by omega), if_neg (by omega)]), gt_unit _ _ _ b, if_pos rfl]
  show rAt P _ (i + 1) (zeros P.orders.length) _ = _
  rw [show j - (i + 1) + (P.orders.length - (j + 1) + 1) = f by omega]
  exact M.el _ (hmem j (by omega) b)
 refine ⟨?_, hunit⟩
 have hw := pw_T (i := i) hP (by omega)
 have ihom : ∀ (k : Nat) (x y : List Int), T P (i + 1) x → T P (i + 1) y → iter k (rImage P f i) (rAt P f (i + 1) x y) = rAt P f (i + 1) (iter k (rImage P f i) x) (iter k (rImage P f i) y) := by
  intro k x y hx hy
  have := (iter_rel (fun (u : List Int) (v : List Int × List Int) => T P (i + 1) v.1 ∧ T P (i + 1) v.2 ∧ u = rAt P f (i + 1) v.1 v.2) (rImage P f i) (fun v => (rImage P f i v.1, rImage P f i v.2)) (by
   rintro u ⟨v1, v2⟩ ⟨h1, h2, rfl⟩
   exact ⟨rImage_T hP hi _, rImage_T hP hi _, hom _ _ h1.1 h2.1⟩) k (rAt P f (i + 1) x y) (x, y) ⟨hx, hy, rfl⟩).2.2
  rw [this]
  have e : ∀ k, iter k (fun v : List Int × List Int => (rImage P f i v.1, rImage P f i v.2)) (x, y) = (iter k (rImage P f i) x, iter k (rImage P f i) y) := by
   intro k
   induction k with
   | zero => rfl
   | succ k ih => show (fun v : List Int × List Int => (rImage P f i v.1, rImage P f i v.2)) (iter k _ (x, y)) = _; rw [ih]; rfl
  rw [e]
 have icl : ∀ (k : Nat) (x : List Int), T P (i + 1) x → T P (i + 1) (iter k (rImage P f i) x) := fun k x hx => iter_inv (T P (i + 1)) _ (fun y _ => rImage_T hP hi y) k x hx
 refine ⟨by omega, L.grp, fun x _ => rImage_T hP hi x, fun x y hx hy => hom x y hx.1 hy.1, hw, R.c3, ?_⟩
 intro x hx
 have hone : rImage P f i (zeros P.orders.length) = zeros P.orders.length := by
  rw [hImg]; exact acc_zero _ _ _ _ _ (fun j _ _ => gt_replicate _ _)
 have hione : ∀ k, iter k (rImage P f i) (zeros P.orders.length) = zeros P.orders.length := by
  intro k
  induction k with
  | zero => rfl
  | succ k ih => show rImage P f i (iter k _ _) = _; rw [ih, hone]
 have key : (fun y => T P (i + 1) y ∧ rAt P f (i + 1) (gt P.powers i) (iter (gt P.orders i).toNat (rImage P f i) y) = rAt P f (i + 1) y (gt P.powers i)) (npr (rAt P f (i + 1)) (unitV P.orders.length) x (i + 1) (zeros P.orders.length) f) := by
  unfold npr
  refine acc_inv (fun y => T P (i + 1) y ∧ rAt P f (i + 1) (gt P.powers i) (iter (gt P.orders i).toNat (rImage P f i) y) = rAt P f (i + 1) y (gt P.powers i)) _ _ _ _ _ ⟨L.grp.one, by rw [hione, M.er _ hw, M.el _ hw]⟩ (fun y j hy a b _ => ?_)
  obtain ⟨h1, h2⟩ := hy
  have hu : T P (i + 1) (unitV P.orders.length j) := T.unit hP a (by omega)
  have h4 := R.c4 j (by omega) (by omega)
  unfold RCond4 at h4
  refine ⟨M.cl _ _ h1 hu, ?_⟩
  rw [ihom _ _ _ h1 hu, ← M.ass _ _ _ hw (icl _ _ h1) (icl _ _ hu), h2, M.ass _ _ _ h1 hw (icl _ _ hu)]
  have h5 : rAt P f (i + 1) (gt P.powers i) (iter (gt P.orders i).toNat (rImage P f i) (unitV P.orders.length j)) = rAt P f (i + 1) (unitV P.orders.length j) (gt P.powers i) := h4
  rw [h5, M.ass _ _ _ h1 hu hw]
 rw [L.nf x hx] at key
 exact key.2
theorem Lvl.step (hP : Valid P) (hi : i + (f + 1) = P.orders.length) (L : Lvl P f (i + 1)) (R : RLevel P f i) : Lvl P (f + 1) i := by
 obtain ⟨E, hunit⟩ := L.ext hP hi R
 have hin : i < P.orders.length := by omega
 have ho := hP.ord7 i hin
 have M' := L.grp.toMonOn
 have hz0 : prV i (0, zeros P.orders.length) = zeros P.orders.length := set_zero_of (P := P) (T.zeros hP (i + 1))
 have G : GrpOn (T P i) (rAt P (f + 1) i) (zeros P.orders.length) :=
  E.group.carry (prV i) (fun p hp => prV_T hP hin hp) (fun y hy => prV_sur hP hin hy) hz0 (fun p q hp hq => prV_mul hP hi p q hp hq)
 have M := G.toMonOn
 have e0 : ∀ x, T P (i + 1) x → prV i (0, x) = x := fun x hx => set_zero_of hx
 have s0 : ∀ x, T P (i + 1) x → ExS (T P (i + 1)) (gt P.orders i).toNat (0, x) := fun x hx => ⟨by show 0 < _; omega, hx⟩
 -- the product restricted
 have res : ∀ x y, T P (i + 1) x → T P (i + 1) y → rAt P (f + 1) i x y = rAt P f (i + 1) x y := fun x y hx hy => by
  have h := prV_mul hP hi (0, x) (0, y) (s0 x hx) (s0 y hy)
  rw [e0 x hx, e0 y hy] at h
  rw [h]
  unfold exm
  simp only [Nat.add_zero, if_neg (by omega : ¬ (gt P.orders i).toNat ≤ 0)]
  exact e0 _ (M'.cl _ _ hx hy)
 have resN : ∀ (x : List Int) (j k : Nat), i + 1 ≤ j → j + k = P.orders.length → npr (rAt P (f + 1) i) (unitV P.orders.length) x j (zeros P.orders.length) k = npr (rAt P f (i + 1)) (unitV P.orders.length) x j (zeros P.orders.length) k ∧
   T P (i + 1) (npr (rAt P f (i + 1)) (unitV P.orders.length) x j (zeros P.orders.length) k) := fun x j k hj hk => by
  have := acc_rel (fun (y z : List Int) => T P (i + 1) z ∧ y = z) (fun y j => rAt P (f + 1) i y (unitV P.orders.length j)) (fun y j => rAt P f (i + 1) y (unitV P.orders.length j)) x j (zeros P.orders.length) (zeros P.orders.length) k ⟨L.grp.one, rfl⟩ (by
   rintro y z l ⟨h1, rfl⟩ a b _
   have hu : T P (i + 1) (unitV P.orders.length l) := T.unit hP (by omega) (by omega)
   exact ⟨M'.cl _ _ h1 hu, res _ _ h1 hu⟩)
  exact ⟨this.2, this.1⟩
 have u1 : unitV P.orders.length i = prV i (1, zeros P.orders.length) := by
  unfold prV unitV zeros; rfl
 have s1 : ∀ a x, a < (gt P.orders i).toNat → T P (i + 1) x → ExS (T P (i + 1)) (gt P.orders i).toNat (a, x) := fun a x ha hx => ⟨ha, hx⟩
 have hz : T P (i + 1) (zeros P.orders.length) := T.zeros hP _
 have hupT : T P i (unitV P.orders.length i) := T.unit hP (Nat.le_refl _) hin
 have hmem : ∀ j, i ≤ j → j < P.orders.length → T P i (unitV P.orders.length j) := fun j a b => T.unit hP a b
 -- powers of the generator
 have hpw : ∀ k, k < (gt P.orders i).toNat → iter k (fun y => rAt P (f + 1) i y (unitV P.orders.length i)) (zeros P.orders.length) = prV i (k, zeros P.orders.length) := by
  intro k
  induction k with
  | zero => intro _; exact hz0.symm
  | succ k ih =>
   intro hk
   show rAt P (f + 1) i (iter k _ _) (unitV P.orders.length i) = _
   rw [ih (by omega), u1, prV_mul hP hi _ _ (s1 k _ (by omega) hz) (s1 1 _ (by omega) hz)]
   unfold exm
   simp only [if_neg (by omega : ¬ (gt P.orders i).toNat ≤ k + 1), E.ione, M'.el _ hz]
 have hw := pw_T (i := i) hP hin
 have nfr : ∀ x, T P (i + 1) x → npr (rAt P (f + 1) i) (unitV P.orders.length) x (i + 1) (zeros P.orders.length) f = x := fun x hx => by
  rw [(resN x (i + 1) f (by omega) (by omega)).1, L.nf x hx]
 refine ⟨G, fun x hx => ?_, ⟨hmem, fun j a b => ?_, fun j k a b c => ?_⟩⟩
 ·-- normal form
  rw [npr_front M (fun j a b => hmem j a (by omega))]
  have hxi := hx.1.2 i hin
  have hd := hx.drop hP hin
  have h1 : npr (rAt P (f + 1) i) (unitV P.orders.length) x (i + 1) (zeros P.orders.length) f = x.set i 0 := by
   have h2 : npr (rAt P (f + 1) i) (unitV P.orders.length) x (i + 1) (zeros P.orders.length) f = npr (rAt P (f + 1) i) (unitV P.orders.length) (x.set i 0) (i + 1) (zeros P.orders.length) f :=
    acc_congr _ _ _ _ _ _ (fun j a b => by rw [gt_set_ne _ _ _ _ (by omega)])
   rw [h2, nfr _ hd]
  rw [hpw _ (by omega), h1]
  obtain ⟨p, hp, hpx⟩ := prV_sur hP hin hx
  have h3 := prV_mul hP hi ((gt x i).toNat, zeros P.orders.length) (0, x.set i 0) (s1 _ _ (by omega) hz) (s0 _ hd)
  rw [e0 _ hd] at h3
  rw [h3]
  unfold exm
  simp only [Nat.add_zero, if_neg (by omega : ¬ (gt P.orders i).toNat ≤ (gt x i).toNat)]
  show prV i ((gt x i).toNat, rAt P f (i + 1) (zeros P.orders.length) (x.set i 0)) = x
  rw [M'.el _ hd]
  unfold prV
  simp only [List.set_set]
  refine ext_gt (by simp) (fun k hk => ?_)
  rw [List.length_set] at hk
  rw [gt_set_if _ _ _ _ hk]
  split
  ·rename_i h; subst h; omega
  ·rfl
 ·-- power relations
  by_cases hji : j = i
  ·subst hji
   rw [show P.orders.length - (j + 1) = f by omega, nfr _ hw]
   obtain ⟨o', ho'⟩ : ∃ o', (gt P.orders j).toNat = o' + 1 := ⟨(gt P.orders j).toNat - 1, by omega⟩
   rw [ho']
   show rAt P (f + 1) j (iter o' _ _) (unitV P.orders.length j) = _
   rw [hpw o' (by omega), u1, prV_mul hP hi _ _ (s1 o' _ (by omega) hz) (s1 1 _ (by omega) hz)]
   unfold exm
   simp only [if_pos (by omega : (gt P.orders j).toNat ≤ o' + 1), E.ione, M'.el _ hz, M'.er _ hw]
   rw [show o' + 1 - (gt P.orders j).toNat = 0 by omega]
   exact e0 _ hw
  ·have hu : T P (i + 1) (unitV P.orders.length j) := T.unit hP (by omega) b
   rw [(resN _ (j + 1) _ (by omega) (by omega)).1, ← L.rel.pw j (by omega) b]
   have := iter_rel (fun (y z : List Int) => T P (i + 1) z ∧ y = z) (fun y => rAt P (f + 1) i y (unitV P.orders.length j)) (fun y => rAt P f (i + 1) y (unitV P.orders.length j)) (by
    rintro y z ⟨h1, rfl⟩
    exact ⟨M'.cl _ _ h1 hu, res _ _ h1 hu⟩) (gt P.orders j).toNat _ _ ⟨L.grp.one, rfl⟩
   exact this.2
 ·-- conjugate relations
  by_cases hji : j = i
  ·subst hji
   have hc := cj_T (i := j) hP b c
   have hu : T P (j + 1) (unitV P.orders.length k) := T.unit hP (by omega) c
   rw [show P.orders.length - (j + 1) = f by omega, nfr _ hc]
   have h1 := prV_mul hP hi (0, unitV P.orders.length k) (1, zeros P.orders.length) (s0 _ hu) (s1 1 _ (by omega) hz)
   have h2 := prV_mul hP hi (1, zeros P.orders.length) (0, gt (gt P.conj j) (k - j - 1)) (s1 1 _ (by omega) hz) (s0 _ hc)
   rw [e0 _ hu, ← u1] at h1
   rw [e0 _ hc, ← u1] at h2
   rw [h1, h2]
   unfold exm
   simp only [Nat.zero_add, Nat.add_zero, if_neg (by omega : ¬ (gt P.orders j).toNat ≤ 1)]
   show prV j (1, rAt P f (j + 1) (rImage P f j (unitV P.orders.length k)) (zeros P.orders.length)) = prV j (1, rAt P f (j + 1) (zeros P.orders.length) (gt (gt P.conj j) (k - j - 1)))
   rw [hunit k b c, M'.er _ hc, M'.el _ hc]
  ·have hu : T P (i + 1) (unitV P.orders.length j) := T.unit hP (by omega) (by omega)
   have hv : T P (i + 1) (unitV P.orders.length k) := T.unit hP (by omega) c
   have hr := resN (gt (gt P.conj j) (k - j - 1)) (j + 1) (P.orders.length - (j + 1)) (by omega) (by omega)
   rw [hr.1, res _ _ hv hu, res _ _ hu hr.2]
   exact L.rel.cj j k (by omega) b c
end
theorem lvl_of_R {P : Pr} (hP : Valid P) (f : Nat) : ∀ i, i + f = P.orders.length → (∀ k, i ≤ k → k < P.orders.length → RLevel P (P.orders.length - 1 - k) k) → Lvl P f i := by
 induction f with
 | zero =>
  intro i hi _
  have : i = P.orders.length := by omega
  subst this
  exact Lvl.top hP
 | succ f ih =>
  intro i hi h
  have L := ih (i + 1) (by omega) (fun k a b => h k (by omega) b)
  have R := h i (by omega) (by omega)
  rw [show P.orders.length - 1 - i = f by omega] at R
  exact L.step hP hi R
theorem lvl_of_I {P : Pr} (hP : Valid P) (f : Nat) : ∀ i, i + f = P.orders.length → (∀ k, i ≤ k → k < P.orders.length → ILevel P k) → Lvl P f i := by
 induction f with
 | zero =>
  intro i hi _
  have : i = P.orders.length := by omega
  subst this
  exact Lvl.top hP
 | succ f ih =>
  intro i hi h
  have L := ih (i + 1) (by omega) (fun k a b => h k (by omega) b)
  exact L.step hP hi ((L.iff hP hi).1 (h i (by omega) (by omega)))
theorem all_iff {P : Pr} (hP : Valid P) : IAll P ↔ RAll P := by
 constructor
 ·intro h k hk
  have L := lvl_of_I hP (P.orders.length - 1 - k) (k + 1) (by omega) (fun l _ b => h l b)
  exact (L.iff hP (by omega)).1 (h k hk)
 ·intro h k hk
  have L := lvl_of_R hP (P.orders.length - 1 - k) (k + 1) (by omega) (fun l _ b => h l b)
  exact (L.iff hP (by omega)).2 (h k hk)
theorem icons_eq (P : Pr) : iconsB P = rconsB P := by
 unfold iconsB rconsB
 exact decide_eq_decide.2 (and_congr_right (fun hP => all_iff hP))
structure Grp (P : Pr) : Prop where
 v : Valid P
 all : RAll P
theorem Grp.tail {P : Pr} (G : Grp P) {f i : Nat} (hi : i + f = P.orders.length) : Lvl P f i := lvl_of_R G.v f i hi (fun k _ b => G.all k b)
theorem Grp.lvl {P : Pr} (G : Grp P) : Lvl P P.orders.length 0 := G.tail (by omega)
theorem grp_of_r {P : Pr} (h : rconsB P = true) : Grp P := by
 unfold rconsB at h
 have h2 := @of_decide_eq_true _ (_) h
 exact ⟨h2.1, h2.2⟩
theorem T_zero {P : Pr} {x : List Int} : T P 0 x ↔ Vec P.orders x := ⟨fun h => h.1, fun h => ⟨h, fun k hk => by omega⟩⟩
section
variable {P : Pr} (G : Grp P)
include G
theorem Grp.grp : GrpOn (Vec P.orders) (rMul P) (zeros P.orders.length) := by
 have h := G.lvl.grp
 have e : T P 0 = Vec P.orders := by funext x; exact propext T_zero
 rw [e] at h
 exact h
theorem Grp.tv_eq {E F : List Int} (hE : Vec P.orders E) (hF : Vec P.orders F) : tv P E F = rMul P E F := G.lvl.tv_eq G.v (by omega) (T_zero.2 hE) (T_zero.2 hF)
theorem Grp.iInv_mul {a : List Int} (ha : Vec P.orders a) : rMul P a (iInv P a) = zeros P.orders.length := (G.lvl.iInv_eq G.v (by omega) (T_zero.2 ha)).2
theorem Grp.iPow_eq {a : List Int} (ha : Vec P.orders a) (k : Int) : iPow P a k = iter k.toNat (fun y => rMul P y a) (zeros P.orders.length) := G.lvl.iPow_eq G.v (by omega) (T_zero.2 ha) k
end
end Go.Proofs.YtmjkoejegfjbbaaGreat
namespace Go.Proofs.YtmjkoejegfjbbaaGreat
section
variable {P : Pr} {f i : Nat}
theorem rImage_zeros : rImage P f i (zeros P.orders.length) = zeros P.orders.length := by
 unfold rImage
 rw [rImgTo_acc]
 exact acc_zero _ _ _ _ _ (fun j _ _ => gt_replicate _ _)
theorem rAt_res (hP : Valid P) (hi : i + (f + 1) = P.orders.length) {x y : List Int} (hx : T P (i + 1) x) (hy : T P (i + 1) y) : rAt P (f + 1) i x y = rAt P f (i + 1) x y := by
 have ho := hP.ord7 i (by omega)
 have h := prV_mul hP hi (0, x) (0, y) ⟨by show 0 < _; omega, hx⟩ ⟨by show 0 < _; omega, hy⟩
 have e0 : ∀ x, T P (i + 1) x → prV i (0, x) = x := fun x hx => set_zero_of hx
 rw [e0 x hx, e0 y hy] at h
 rw [h]
 unfold exm
 simp only [Nat.add_zero, if_neg (by omega : ¬ (gt P.orders i).toNat ≤ 0)]
 exact e0 _ (rAt_T hP f (i + 1) x y (by omega) hx.1 hy.1)
theorem gen_pow (hP : Valid P) (hi : i + (f + 1) = P.orders.length) (L' : Lvl P f (i + 1)) (k : Nat) (hk : k < (gt P.orders i).toNat) :
  iter k (fun y => rAt P (f + 1) i y (unitV P.orders.length i)) (zeros P.orders.length) = prV i (k, zeros P.orders.length) := by
 have hz : T P (i + 1) (zeros P.orders.length) := T.zeros hP _
 induction k with
 | zero => exact (set_zero_of hz).symm
 | succ k ih =>
  show rAt P (f + 1) i (iter k _ _) (unitV P.orders.length i) = _
  have u1 : unitV P.orders.length i = prV i (1, zeros P.orders.length) := by unfold prV unitV zeros; rfl
  rw [ih (by omega), u1, prV_mul hP hi _ _ ⟨by show k < _; omega, hz⟩ ⟨by show 1 < _; omega, hz⟩]
  unfold exm
  simp only [if_neg (by omega : ¬ (gt P.orders i).toNat ≤ k + 1)]
  show prV i (k + 1, rAt P f (i + 1) (rImage P f i (zeros P.orders.length)) (zeros P.orders.length)) = _
  rw [rImage_zeros, L'.grp.el _ hz]
theorem vec_head (hP : Valid P) (hi : i + (f + 1) = P.orders.length) (L' : Lvl P f (i + 1)) {x : List Int} (hx : T P i x) :
  rAt P (f + 1) i (prV i ((gt x i).toNat, zeros P.orders.length)) (x.set i 0) = x := by
 have hin : i < P.orders.length := by omega
 have hxi := hx.1.2 i hin
 have hd := hx.drop hP hin
 have hz : T P (i + 1) (zeros P.orders.length) := T.zeros hP _
 have h3 := prV_mul hP hi ((gt x i).toNat, zeros P.orders.length) (0, x.set i 0) ⟨by show (gt x i).toNat < _; omega, hz⟩ ⟨by show 0 < _; omega, hd⟩
 have e0 : prV i (0, x.set i 0) = x.set i 0 := set_zero_of hd
 rw [e0] at h3
 rw [h3]
 unfold exm
 simp only [Nat.add_zero, if_neg (by omega : ¬ (gt P.orders i).toNat ≤ (gt x i).toNat)]
 show prV i ((gt x i).toNat, rAt P f (i + 1) (zeros P.orders.length) (x.set i 0)) = x
 rw [L'.grp.el _ hd]
 unfold prV
 simp only [List.set_set]
 refine ext_gt (by simp) (fun k hk => ?_)
 rw [List.length_set] at hk
 rw [gt_set_if _ _ _ _ hk]
 split
 ·rename_i h; subst h; omega
 ·rfl
theorem rFrom_inv (G : Grp P) (f : Nat) : ∀ (i : Nat) (x : List Int), i + f = P.orders.length → T P i x → T P i (rFrom P f i x) ∧ rAt P f i x (rFrom P f i x) = zeros P.orders.length := by
 have hP := G.v
 induction f with
 | zero => intro i x _ _; exact ⟨T.zeros hP i, rfl⟩
 | succ f ih =>
  intro i x hi hx
  have hin : i < P.orders.length := by omega
  have L := G.tail hi
  have L' := G.tail (f := f) (i := i + 1) (by omega)
  have ho := hP.ord7 i hin
  have hxi := hx.1.2 i hin
  have hd := hx.drop hP hin
  obtain ⟨h1, h2⟩ := ih (i + 1) _ (by omega) hd
  have h1i : T P i (rFrom P f (i + 1) (x.set i 0)) := h1.down (by omega)
  simp only [rFrom]
  by_cases h0 : gt x i = 0
  ·rw [if_pos h0]
   have ex : x.set i 0 = x := set_zero_of (hx.up h0)
   rw [ex] at h1i h2 ⊢
   rw [ex] at h1
   exact ⟨h1i, by rw [rAt_res hP hi (hx.up h0) h1]; exact h2⟩
  ·rw [if_neg h0]
   have hw := pw_T (i := i) hP hin
   obtain ⟨h3, h4⟩ := ih (i + 1) _ (by omega) hw
   have hg : T P i (prV i ((gt P.orders i - gt x i).toNat, zeros P.orders.length)) := prV_T hP hin ⟨by show (gt P.orders i - gt x i).toNat < _; omega, T.zeros hP _⟩
   have hg2 : T P i (prV i ((gt x i).toNat, zeros P.orders.length)) := prV_T hP hin ⟨by show (gt x i).toNat < _; omega, T.zeros hP _⟩
   have eg : (zeros P.orders.length).set i (gt P.orders i - gt x i) = prV i ((gt P.orders i - gt x i).toNat, zeros P.orders.length) := by
    unfold prV
    simp only
    rw [show (((gt P.orders i - gt x i).toNat : Nat) : Int) = gt P.orders i - gt x i by omega]
   rw [eg]
   have M := L.grp.toMonOn
   have h3i : T P i (rFrom P f (i + 1) (gt P.powers i)) := h3.down (by omega)
   have hdi : T P i (x.set i 0) := hd.down (by omega)
   have hwi : T P i (gt P.powers i) := hw.down (by omega)
   refine ⟨M.cl _ _ (M.cl _ _ h1i hg) h3i, ?_⟩
   have hu := T.unit hP (Nat.le_refl i) hin
   have e1 : rAt P (f + 1) i (x.set i 0) (rFrom P f (i + 1) (x.set i 0)) = zeros P.orders.length := by rw [rAt_res hP hi hd h1]; exact h2
   have e2 : rAt P (f + 1) i (gt P.powers i) (rFrom P f (i + 1) (gt P.powers i)) = zeros P.orders.length := by rw [rAt_res hP hi hw h3]; exact h4
   have e3 : rAt P (f + 1) i (prV i ((gt x i).toNat, zeros P.orders.length)) (prV i ((gt P.orders i - gt x i).toNat, zeros P.orders.length)) = gt P.powers i := by
    rw [← gen_pow hP hi L' _ (by omega), ← gen_pow hP hi L' _ (by omega), ← M.pow_add hu, show (gt x i).toNat + (gt P.orders i - gt x i).toNat = (gt P.orders i).toNat by omega, L.rel.pw i (Nat.le_refl _) hin]
    rw [show P.orders.length - (i + 1) = f by omega]
    have := L'.nf _ hw
    have hr := (acc_rel (fun (y z : List Int) => T P (i + 1) z ∧ y = z) (fun y j => rAt P (f + 1) i y (unitV P.orders.length j)) (fun y j => rAt P f (i + 1) y (unitV P.orders.length j)) (gt P.powers i) (i + 1) (zeros P.orders.length) (zeros P.orders.length) f ⟨L'.grp.one, rfl⟩ (by
     rintro y z l ⟨g1, rfl⟩ a b _
     have hul : T P (i + 1) (unitV P.orders.length l) := T.unit hP (by omega) (by omega)
     exact ⟨L'.grp.cl _ _ g1 hul, rAt_res hP hi g1 hul⟩)).2
    exact hr.trans this
   have hx2 := vec_head hP hi L' hx
   have assoc : rAt P (f + 1) i x (rAt P (f + 1) i (rAt P (f + 1) i (rFrom P f (i + 1) (x.set i 0)) (prV i ((gt P.orders i - gt x i).toNat, zeros P.orders.length))) (rFrom P f (i + 1) (gt P.powers i))) = zeros P.orders.length := by
    have hc := M.cl _ _ h1i hg
    rw [← M.ass _ _ _ hx hc h3i, ← M.ass _ _ _ hx h1i hg]
    have e4 : rAt P (f + 1) i x (rFrom P f (i + 1) (x.set i 0)) = prV i ((gt x i).toNat, zeros P.orders.length) := by
     have e5 : rAt P (f + 1) i x (rFrom P f (i + 1) (x.set i 0)) = rAt P (f + 1) i (rAt P (f + 1) i (prV i ((gt x i).toNat, zeros P.orders.length)) (x.set i 0)) (rFrom P f (i + 1) (x.set i 0)) := by rw [hx2]
     rw [e5, M.ass _ _ _ hg2 hdi h1i, e1, M.er _ hg2]
    rw [e4, e3, e2]
   exact assoc
end
section
variable {P : Pr} (G : Grp P)
include G
theorem Grp.mul_inv {x : List Int} (hx : Vec P.orders x) : rMul P x (rInv P x) = zeros P.orders.length := (rFrom_inv G P.orders.length 0 x (by omega) (T_zero.2 hx)).2
theorem Grp.inv_mul {x : List Int} (hx : Vec P.orders x) : rMul P (rInv P x) x = zeros P.orders.length := G.grp.right_left hx (rInv_vec G.v x hx) (G.mul_inv hx)
theorem Grp.mulV {x y : List Int} (hx : Vec P.orders x) (hy : Vec P.orders y) : Vec P.orders (rMul P x y) := G.grp.cl _ _ hx hy
theorem Grp.invV {x : List Int} (hx : Vec P.orders x) : Vec P.orders (rInv P x) := rInv_vec G.v x hx
theorem Grp.ass {x y z : List Int} (hx : Vec P.orders x) (hy : Vec P.orders y) (hz : Vec P.orders z) : rMul P (rMul P x y) z = rMul P x (rMul P y z) := G.grp.ass x y z hx hy hz
theorem Grp.oneV : Vec P.orders (zeros P.orders.length) := zeros_vec G.v
theorem Grp.conjV {x y : List Int} (hx : Vec P.orders x) (hy : Vec P.orders y) : Vec P.orders (rConj P x y) := G.mulV (G.invV hy) (G.mulV hx hy)
theorem Grp.iInv_eq {x : List Int} (hx : Vec P.orders x) : iInv P x = rInv P x :=
 G.grp.cancel hx (iInv_vec G.v x hx) (G.invV hx) (by rw [G.iInv_mul hx, G.mul_inv hx])
theorem Grp.iConj_eq {x y : List Int} (hx : Vec P.orders x) (hy : Vec P.orders y) : iConj P x y = rConj P x y := by
 unfold iConj rConj
 rw [G.iInv_eq hy, G.tv_eq hx hy, G.tv_eq (G.invV hy) (G.mulV hx hy)]
theorem Grp.conj_one {x : List Int} (hx : Vec P.orders x) : rConj P x (zeros P.orders.length) = x := by
 unfold rConj
 have h1 : rInv P (zeros P.orders.length) = zeros P.orders.length := by
  have := G.mul_inv G.oneV
  rw [G.grp.el _ (G.invV G.oneV)] at this
  exact this
 rw [h1, G.grp.er _ hx, G.grp.el _ hx]
theorem Grp.inv_of {x y : List Int} (hx : Vec P.orders x) (hy : Vec P.orders y) (h : rMul P x y = zeros P.orders.length) : y = rInv P x :=
 G.grp.cancel hx hy (G.invV hx) (by rw [h, G.mul_inv hx])
theorem Grp.inv_mulR {x y : List Int} (hx : Vec P.orders x) (hy : Vec P.orders y) : rInv P (rMul P x y) = rMul P (rInv P y) (rInv P x) := by
 symm
 refine G.inv_of (G.mulV hx hy) (G.mulV (G.invV hy) (G.invV hx)) ?_
 rw [G.ass hx hy (G.mulV (G.invV hy) (G.invV hx)), ← G.ass hy (G.invV hy) (G.invV hx), G.mul_inv hy, G.grp.el _ (G.invV hx), G.mul_inv hx]
theorem Grp.inv_inv {x : List Int} (hx : Vec P.orders x) : rInv P (rInv P x) = x := (G.inv_of (G.invV hx) hx (G.inv_mul hx)).symm
theorem Grp.conj_mul {x y z : List Int} (hx : Vec P.orders x) (hy : Vec P.orders y) (hz : Vec P.orders z) : rConj P (rConj P x y) z = rConj P x (rMul P y z) := by
 unfold rConj
 have c1 := G.mulV hx hy
 rw [G.inv_mulR hy hz, G.ass (G.invV hz) (G.invV hy) (G.mulV hx (G.mulV hy hz)), G.ass (G.invV hy) c1 hz, G.ass hx hy hz]
end
end Go.Proofs.YtmjkoejegfjbbaaGreat
namespace Go.Proofs.YtmjkoejegfjbbaaGreat
theorem rAt_right {P : Pr} (hP : Valid P) (f : Nat) : ∀ (i e : Nat) (x z : List Int), i + f = P.orders.length → i ≤ e → e ≤ P.orders.length → Vec P.orders x → T P e z →
  (∀ k, i ≤ k → k < e → gt (rAt P f i x z) k = gt x k) ∧ (e < P.orders.length → gt (rAt P f i x z) e = (gt x e + gt z e) % gt P.orders e) := by
 induction f with
 | zero => intro i e x z hi he hen _ _; exact ⟨fun k a b => by omega, fun h => by omega⟩
 | succ f ih =>
  intro i e x z hi he hen hx hz
  have hin : i < P.orders.length := by omega
  have ho := hP.ord7 i hin
  have hxi := hx.2 i hin
  have hzi := hz.1.2 i hin
  have hr := rAt_T hP (f + 1) i x z hi hx hz.1
  by_cases hie : i = e
  ·subst hie
   refine ⟨fun k a b => by omega, fun _ => ?_⟩
   simp only [rAt]
   have hl : ∀ l : List Int, Vec P.orders l → Vec P.orders (iter (gt z i).toNat (fun l => rImgTo (rAt P f (i + 1)) (gt P.conj i) i l (zeros P.orders.length) f) l) := fun l hl =>
    iter_inv (Vec P.orders) _ (fun y hy => rImgTo_vec hP f i hi (rAt_vec hP f) _ _ (zeros_vec hP) f (Nat.le_refl _)) _ _ hl
   have v1 := hl _ (hx.set i 0 ⟨by omega, fun _ => by omega⟩)
   have v2 : Vec P.orders (z.set i 0) := hz.1.set i 0 ⟨by omega, fun _ => by omega⟩
   have v3 := rAt_vec hP f (i + 1) _ _ (by omega) v1 v2
   split
   ·rename_i hc
    have v4 := rAt_vec hP f (i + 1) _ _ (by omega) (hP.pv i hin).1 v3
    rw [gt_set_eq _ _ _ (by rw [v4.1]; exact hin)]
    have e1 : gt x i + gt z i = (gt x i + gt z i - gt P.orders i) + gt P.orders i := by omega
    rw [e1, Int.add_emod_right, Int.emod_eq_of_lt (by omega) (by omega)]
    omega
   ·rename_i hc
    rw [gt_set_eq _ _ _ (by rw [v3.1]; exact hin), Int.emod_eq_of_lt (by omega) (by omega)]
  ·have hz0 : gt z i = 0 := hz.2 i (by omega)
   have hzs : z.set i 0 = z := set_zero_of (P := P) (hz.down (by omega))
   have hxs : Vec P.orders (x.set i 0) := hx.set i 0 ⟨by omega, fun _ => by omega⟩
   have hrec := ih (i + 1) e (x.set i 0) z (by omega) (by omega) hen hxs hz
   have v3 := rAt_vec hP f (i + 1) (x.set i 0) z (by omega) hxs hz.1
   have hdef : rAt P (f + 1) i x z = (rAt P f (i + 1) (x.set i 0) z).set i (gt x i) := by
    simp only [rAt, hz0, hzs]
    rw [if_neg (by omega), Int.add_zero]
    rfl
   rw [hdef]
   refine ⟨fun k a b => ?_, fun h => ?_⟩
   ·by_cases ek : i = k
    ·subst ek; rw [gt_set_eq _ _ _ (by rw [v3.1]; exact hin)]
    ·rw [gt_set_ne _ _ _ _ ek, hrec.1 k (by omega) b, gt_set_ne _ _ _ _ ek]
   ·rw [gt_set_ne _ _ _ _ (by omega), hrec.2 h, gt_set_ne _ _ _ _ (by omega)]
def pw (P : Pr) (x : List Int) (k : Nat) : List Int := iter k (fun y => rMul P y x) (zeros P.orders.length)
section
variable {P : Pr} (G : Grp P)
include G
theorem Grp.right {x z : List Int} {e : Nat} (he : e ≤ P.orders.length) (hx : Vec P.orders x) (hz : T P e z) :
  (∀ k, k < e → gt (rMul P x z) k = gt x k) ∧ (e < P.orders.length → gt (rMul P x z) e = (gt x e + gt z e) % gt P.orders e) := by
 have h := rAt_right G.v P.orders.length 0 e x z (by omega) (by omega) he hx hz
 exact ⟨fun k hk => h.1 k (by omega) hk, h.2⟩
theorem Grp.T_mul {x y : List Int} {d : Nat} (hd : d ≤ P.orders.length) (hx : T P d x) (hy : T P d y) : T P d (rMul P x y) :=
 ⟨G.mulV hx.1 hy.1, fun k hk => by rw [(G.right hd hx.1 hy).1 k hk]; exact hx.2 k hk⟩
theorem Grp.pw_vec {x : List Int} (hx : Vec P.orders x) (k : Nat) : Vec P.orders (pw P x k) := G.grp.toMonOn.pow_cl hx G.oneV k
theorem Grp.pw_add {x : List Int} (hx : Vec P.orders x) (a b : Nat) : pw P x (a + b) = rMul P (pw P x a) (pw P x b) := G.grp.toMonOn.pow_add hx a b
omit G in
theorem pw_zero (P : Pr) (x : List Int) : pw P x 0 = zeros P.orders.length := rfl
omit G in
theorem pw_succ (P : Pr) (x : List Int) (k : Nat) : pw P x (k + 1) = rMul P (pw P x k) x := rfl
theorem Grp.pw_one {x : List Int} (hx : Vec P.orders x) : pw P x 1 = x := G.grp.el x hx
theorem Grp.pw_succ' {x : List Int} (hx : Vec P.orders x) (k : Nat) : pw P x (k + 1) = rMul P x (pw P x k) := by
 rw [Nat.add_comm, G.pw_add hx, G.pw_one hx]
theorem Grp.pw_mul {x : List Int} (hx : Vec P.orders x) (a b : Nat) : pw P x (a * b) = pw P (pw P x a) b := by
 induction b with
 | zero => rfl
 | succ b ih => rw [Nat.mul_succ, G.pw_add hx, ih]; rfl
theorem Grp.pw_T {x : List Int} {d : Nat} (hd : d ≤ P.orders.length) (hx : T P d x) (k : Nat) : T P d (pw P x k) := by
 induction k with
 | zero => exact T.zeros G.v d
 | succ k ih => exact G.T_mul hd ih hx
theorem Grp.pw_at {x : List Int} {d : Nat} (hd : d < P.orders.length) (hx : T P d x) (k : Nat) : gt (pw P x k) d = ((k : Int) * gt x d) % gt P.orders d := by
 induction k with
 | zero => rw [pw_zero]; show gt (List.replicate _ (0 : Int)) d = _; rw [gt_replicate]; simp
 | succ k ih =>
  rw [pw_succ, (G.right (Nat.le_of_lt hd) (G.pw_vec hx.1 k) hx).2 hd, ih, Int.emod_add_emod]
  congr 1
  rw [Int.natCast_add, Int.add_mul]; simp
theorem Grp.pw_order {x : List Int} {d : Nat} (hd : d < P.orders.length) (hx : T P d x) : T P (d + 1) (pw P x (gt P.orders d).toNat) := by
 have ho := G.v.ord7 d hd
 refine (G.pw_T (Nat.le_of_lt hd) hx _).up ?_
 rw [G.pw_at hd hx, show (((gt P.orders d).toNat : Nat) : Int) = gt P.orders d by omega, Int.mul_emod_right]
theorem Grp.fin (f : Nat) : ∀ (d : Nat) (x : List Int), d + f = P.orders.length → T P d x → ∃ M, 1 ≤ M ∧ pw P x M = zeros P.orders.length := by
 induction f with
 | zero =>
  intro d x hd hx
  have : d = P.orders.length := by omega
  subst this
  refine ⟨1, Nat.le_refl _, ?_⟩
  rw [G.pw_one hx.1]; exact hx.top G.v
 | succ f ih =>
  intro d x hd hx
  have ho := G.v.ord7 d (by omega)
  obtain ⟨M, h1, h2⟩ := ih (d + 1) _ (by omega) (G.pw_order (by omega) hx)
  refine ⟨(gt P.orders d).toNat * M, Nat.mul_pos (by omega) h1, ?_⟩
  rw [G.pw_mul hx.1, h2]
theorem Grp.inv_pw {x : List Int} (hx : Vec P.orders x) : ∃ k, rInv P x = pw P x k := by
 obtain ⟨M, h1, h2⟩ := G.fin P.orders.length 0 x (by omega) (T_zero.2 hx)
 refine ⟨M - 1, ?_⟩
 refine (G.inv_of hx (G.pw_vec hx _) ?_).symm
 rw [← G.pw_succ' hx, show M - 1 + 1 = M by omega, h2]
theorem Grp.T_inv {x : List Int} {d : Nat} (hd : d ≤ P.orders.length) (hx : T P d x) : T P d (rInv P x) := by
 obtain ⟨k, hk⟩ := G.inv_pw hx.1
 rw [hk]; exact G.pw_T hd hx k
theorem Grp.diff {u v : List Int} {d : Nat} (hd : d < P.orders.length) (hu : T P d u) (hv : T P d v) (h : gt u d = gt v d) : T P (d + 1) (rMul P (rInv P u) v) := by
 have hi := G.T_inv (Nat.le_of_lt hd) hu
 have hc := G.T_mul (Nat.le_of_lt hd) hi hv
 refine hc.up ?_
 have e1 : rMul P u (rMul P (rInv P u) v) = v := by rw [← G.ass hu.1 hi.1 hv.1, G.mul_inv hu.1, G.grp.el _ hv.1]
 have e2 := (G.right (Nat.le_of_lt hd) hu.1 hc).2 hd
 rw [e1] at e2
 have b1 := hu.1.2 d hd
 have b2 := hc.1.2 d hd
 by_cases hlt : gt u d + gt (rMul P (rInv P u) v) d < gt P.orders d
 ·rw [Int.emod_eq_of_lt (by omega) hlt] at e2; omega
 ·have e3 : gt u d + gt (rMul P (rInv P u) v) d = (gt u d + gt (rMul P (rInv P u) v) d - gt P.orders d) + gt P.orders d := by omega
  rw [e3, Int.add_emod_right, Int.emod_eq_of_lt (by omega) (by omega)] at e2; omega
end
structure Sub (P : Pr) (H : List Int → Prop) : Prop where
 vec : ∀ x, H x → Vec P.orders x
 one : H (zeros P.orders.length)
 mul : ∀ x y, H x → H y → H (rMul P x y)
 inv : ∀ x, H x → H (rInv P x)
section
variable {P : Pr} (G : Grp P)
include G
theorem Grp.sub_all : Sub P (Vec P.orders) := ⟨fun _ h => h, G.oneV, fun _ _ h k => G.mulV h k, fun _ h => G.invV h⟩
theorem Grp.sub_of_mul {H : List Int → Prop} (hv : ∀ x, H x → Vec P.orders x) (h1 : H (zeros P.orders.length)) (hm : ∀ x y, H x → H y → H (rMul P x y)) : Sub P H := by
 refine ⟨hv, h1, hm, fun x hx => ?_⟩
 obtain ⟨k, hk⟩ := G.inv_pw (hv x hx)
 rw [hk]
 induction k generalizing x with
 | zero => exact h1
 | succ k _ =>
  have : ∀ j, H (pw P x j) := by
   intro j
   induction j with
   | zero => exact h1
   | succ j ihj => exact hm _ _ ihj hx
  exact this _
omit G in
theorem Sub.pw {H : List Int → Prop} (S : Sub P H) {x : List Int} (hx : H x) (k : Nat) : H (Go.Proofs.YtmjkoejegfjbbaaGreat.pw P x k) := by
 induction k with
 | zero => exact S.one
 | succ k ih => exact S.mul _ _ ih hx
theorem Grp.comm_deep {x y : List Int} {d : Nat} (hd : d < P.orders.length) (hx : T P d x) (hy : T P (d + 1) y) :
  T P (d + 1) (rMul P (rInv P (rMul P y x)) (rMul P x y)) ∧ T P (d + 1) (rMul P (rInv P (rMul P x y)) (rMul P y x)) := by
 have hd' := Nat.le_of_lt hd
 have hyd := hy.down (Nat.le_succ d)
 have h1 := G.T_mul hd' hx hyd
 have h2 := G.T_mul hd' hyd hx
 have e1 : gt (rMul P x y) d = gt x d := (G.right (Nat.succ_le_of_lt hd) hx.1 hy).1 d (by omega)
 have e2 : gt (rMul P y x) d = gt x d := by
  rw [(G.right hd' hyd.1 hx).2 hd, hy.2 d (by omega), Int.zero_add]
  have := hx.1.2 d hd
  exact Int.emod_eq_of_lt this.1 this.2
 exact ⟨G.diff hd h2 h1 (by rw [e1, e2]), G.diff hd h1 h2 (by rw [e1, e2])⟩
theorem Grp.conj_of_comm {x y : List Int} (hx : Vec P.orders x) (hy : Vec P.orders y) : rConj P x y = rMul P x (rMul P (rInv P (rMul P y x)) (rMul P x y)) := by
 unfold rConj
 have c1 := G.mulV hx hy
 rw [G.inv_mulR hy hx, G.ass (G.invV hx) (G.invV hy) c1, ← G.ass hx (G.invV hx) (G.mulV (G.invV hy) c1), G.mul_inv hx, G.grp.el _ (G.mulV (G.invV hy) c1)]
theorem Grp.comm_inv {x y : List Int} (hx : Vec P.orders x) (hy : Vec P.orders y) : rInv P (rMul P (rInv P (rMul P x y)) (rMul P y x)) = rMul P (rInv P (rMul P y x)) (rMul P x y) := by
 have c1 := G.mulV hx hy
 have c2 := G.mulV hy hx
 rw [G.inv_mulR (G.invV c1) c2, G.inv_inv c1]
structure Closed (P : Pr) (b : Nat → List Int) (R : List Int → Prop) : Prop where
 tab : ∀ d, d < P.orders.length → b d ≠ [] → T P d (b d) ∧ gt (b d) d = 1
 vec : ∀ q, R q → Vec P.orders q
 step : ∀ q, R q → q = zeros P.orders.length ∨ ∃ d, d < P.orders.length ∧ T P d q ∧ gt q d ≠ 0 ∧ b d ≠ [] ∧ ∃ q', R q' ∧ T P (d + 1) q' ∧ ∀ K, Sub P K → K (b d) → K q' → K q
 pow : ∀ d, d < P.orders.length → b d ≠ [] → R (pw P (b d) (gt P.orders d).toNat)
 com : ∀ d e, d < e → e < P.orders.length → b d ≠ [] → b e ≠ [] → ∃ c, R c ∧ T P (d + 1) c ∧ ∀ K, Sub P K → K (b e) → K c → K (rConj P (b e) (b d))
structure TailSub (P : Pr) (b : Nat → List Int) (R : List Int → Prop) (d : Nat) (K : List Int → Prop) : Prop where
 sub : Sub P K
 deep : ∀ x, K x → T P d x
 mem : ∀ e, d ≤ e → e < P.orders.length → b e ≠ [] → K (b e)
 res : ∀ q, R q → T P d q → K q
 piv : ∀ x, K x → ∀ e, d ≤ e → e < P.orders.length → T P e x → gt x e ≠ 0 → b e ≠ []
 min : ∀ K', Sub P K' → (∀ e, d ≤ e → e < P.orders.length → b e ≠ [] → K' (b e)) → ∀ x, K x → K' x
theorem Grp.conj_hom {x y z : List Int} (hx : Vec P.orders x) (hy : Vec P.orders y) (hz : Vec P.orders z) : rConj P (rMul P x y) z = rMul P (rConj P x z) (rConj P y z) := by
 unfold rConj
 have hi := G.invV hz
 have c1 := G.mulV hx hz
 have c2 := G.mulV hy hz
 rw [G.ass hi c1 (G.mulV hi c2), G.ass hx hz (G.mulV hi c2), ← G.ass hz hi c2, G.mul_inv hz, G.grp.el _ c2, G.ass hx hy hz]
theorem Grp.tailSub {b : Nat → List Int} {R : List Int → Prop} (C : Closed P b R) (f : Nat) : ∀ d, d + f = P.orders.length → ∃ K, TailSub P b R d K := by
 induction f with
 | zero =>
  intro d hd
  have : d = P.orders.length := by omega
  subst this
  have hone : Sub P (fun x => x = zeros P.orders.length) := by
   refine G.sub_of_mul (fun x h => by rw [h]; exact G.oneV) rfl (fun x y hx hy => ?_)
   rw [hx, hy]; exact G.grp.el _ G.oneV
  exact ⟨_, hone, fun x h => by rw [h]; exact T.zeros G.v _, fun e a b' => by omega, fun q _ hq => hq.top G.v, fun x _ e a b' => by omega, fun K' S _ x hx => by rw [hx]; exact S.one⟩
 | succ f ih =>
  intro d hd
  obtain ⟨K', t⟩ := ih (d + 1) (by omega)
  have hdn : d < P.orders.length := by omega
  have hd' := Nat.le_of_lt hdn
  by_cases hb : b d = []
  ·refine ⟨K', t.sub, fun x hx => (t.deep x hx).down (Nat.le_succ d), fun e a b' hbe => ?_, fun q hq hT => ?_, fun x hx e a b' hT h0 => ?_, fun K2 S h x hx => t.min K2 S (fun e a b' hbe => h e (by omega) b' hbe) x hx⟩
   ·by_cases ed : e = d
    ·subst ed; exact absurd hb hbe
    ·exact t.mem e (by omega) b' hbe
   ·rcases C.step q hq with h | ⟨d', h1, h2, h3, h4, _⟩
    ·rw [h]; exact t.sub.one
    ·have hdd : d ≤ d' := by
      have : ¬ d' < d := fun h => h3 (hT.2 d' h)
      omega
     have hne : d' ≠ d := fun e => h4 (by rw [e]; exact hb)
     exact t.res q hq (h2.down (by omega))
   ·by_cases ed : e = d
    ·subst ed
     exact absurd ((t.deep x hx).2 e (by omega)) h0
    ·exact t.piv x hx e (by omega) b' hT h0
  ·obtain ⟨hbT, hb1⟩ := C.tab d hdn hb
   have ho := G.v.ord7 d hdn
   have hbV := hbT.1
   -- conjugation by the new entry keeps K'
   have hN : Sub P (fun y => K' y ∧ K' (rConj P y (b d))) := by
    refine G.sub_of_mul (fun x h => t.sub.vec x h.1) ⟨t.sub.one, ?_⟩ (fun x y hx hy => ⟨t.sub.mul _ _ hx.1 hy.1, ?_⟩)
    ·have : rConj P (zeros P.orders.length) (b d) = zeros P.orders.length := by
      unfold rConj; rw [G.grp.el _ hbV, G.inv_mul hbV]
     rw [this]; exact t.sub.one
    ·rw [G.conj_hom (t.sub.vec x hx.1) (t.sub.vec y hy.1) hbV]; exact t.sub.mul _ _ hx.2 hy.2
   have hcj : ∀ y, K' y → K' (rConj P y (b d)) := fun y hy => (t.min _ hN (fun e a b' hbe => by
    have hm := t.mem e a b' hbe
    obtain ⟨c, hc1, hc2, hc3⟩ := C.com d e (by omega) b' hb hbe
    exact ⟨hm, hc3 K' t.sub hm (t.res c hc1 hc2)⟩) y hy).2
   have hcjk : ∀ (k : Nat) y, K' y → K' (rMul P (rInv P (pw P (b d) k)) (rMul P y (pw P (b d) k))) := by
    intro k
    induction k with
    | zero =>
     intro y hy
     have h0 : rConj P y (zeros P.orders.length) = y := G.conj_one (t.sub.vec y hy)
     show K' (rConj P y (zeros P.orders.length))
     rw [h0]; exact hy
    | succ k ihk =>
     intro y hy
     have h1 := hcj _ (ihk y hy)
     have h2 : rConj P (rConj P y (pw P (b d) k)) (b d) = rConj P y (pw P (b d) (k + 1)) := G.conj_mul (t.sub.vec y hy) (G.pw_vec hbV k) hbV
     show K' (rConj P y (pw P (b d) (k + 1)))
     rw [← h2]; exact h1
   have hw : K' (pw P (b d) (gt P.orders d).toNat) := t.res _ (C.pow d hdn hb) (G.pw_order hdn hbT)
   have hK : Sub P (fun x => ∃ k y, K' y ∧ x = rMul P (pw P (b d) k) y) := by
    refine G.sub_of_mul ?_ ⟨0, _, t.sub.one, (G.grp.el _ G.oneV).symm⟩ ?_
    ·rintro x ⟨k, y, hy, rfl⟩; exact G.mulV (G.pw_vec hbV k) (t.sub.vec y hy)
    ·rintro x x' ⟨k, y, hy, rfl⟩ ⟨l, z, hz, rfl⟩
     have vy := t.sub.vec y hy
     have vz := t.sub.vec z hz
     have pk := G.pw_vec hbV k
     have pl := G.pw_vec hbV l
     refine ⟨k + l, _, t.sub.mul _ _ (hcjk l y hy) hz, ?_⟩
     rw [G.pw_add hbV, G.ass pk vy (G.mulV pl vz), ← G.ass vy pl vz, G.ass (G.invV pl) (G.mulV vy pl) vz, G.ass pk pl (G.mulV (G.invV pl) (G.mulV (G.mulV vy pl) vz)), ← G.ass pl (G.invV pl) (G.mulV (G.mulV vy pl) vz), G.mul_inv pl, G.grp.el _ (G.mulV (G.mulV vy pl) vz)]
   have hsub : ∀ y, K' y → ∃ k z, K' z ∧ y = rMul P (pw P (b d) k) z := fun y hy => ⟨0, y, hy, (G.grp.el y (t.sub.vec y hy)).symm⟩
   have hbK : ∃ k z, K' z ∧ b d = rMul P (pw P (b d) k) z := ⟨1, _, t.sub.one, by rw [G.pw_one hbV, G.grp.er _ hbV]⟩
   refine ⟨_, hK, ?_, fun e a b' hbe => ?_, fun q hq hT => ?_, ?_, ?_⟩
   ·rintro x ⟨k, y, hy, rfl⟩
    exact G.T_mul hd' (G.pw_T hd' hbT k) ((t.deep y hy).down (Nat.le_succ d))
   ·by_cases ed : e = d
    ·subst ed; exact hbK
    ·exact hsub _ (t.mem e (by omega) b' hbe)
   ·rcases C.step q hq with h | ⟨d', h1, h2, h3, h4, q', h5, h6, h7⟩
    ·rw [h]; exact hK.one
    ·have hdd : d ≤ d' := by
      have : ¬ d' < d := fun h => h3 (hT.2 d' h)
      omega
     by_cases ed : d' = d
     ·subst ed
      exact h7 _ hK hbK (hsub q' (t.res q' h5 h6))
     ·exact hsub q (t.res q hq (h2.down (by omega)))
   ·rintro x ⟨k, y, hy, rfl⟩ e a b' hT h0
    by_cases ed : e = d
    ·rw [ed]; exact hb
    ·have hyT := t.deep y hy
     have hx0 : gt (rMul P (pw P (b d) k) y) d = 0 := hT.2 d (by omega)
     rw [(G.right (Nat.succ_le_of_lt hdn) (G.pw_vec hbV k) hyT).1 d (by omega), G.pw_at hdn hbT, hb1, Int.mul_one] at hx0
     -- the order divides k
     obtain ⟨j, hj⟩ : ∃ j : Nat, k = (gt P.orders d).toNat * j := by
      refine ⟨k / (gt P.orders d).toNat, ?_⟩
      have h1 : ((k % (gt P.orders d).toNat : Nat) : Int) = 0 := by
       rw [Int.natCast_emod, show (((gt P.orders d).toNat : Nat) : Int) = gt P.orders d by omega]; exact hx0
      have h2 := Nat.div_add_mod k (gt P.orders d).toNat
      omega
     have hpk : K' (pw P (b d) k) := by rw [hj, G.pw_mul hbV]; exact t.sub.pw hw j
     exact t.piv _ (t.sub.mul _ _ hpk hy) e (by omega) b' hT h0
   ·rintro K2 S h x ⟨k, y, hy, rfl⟩
    exact S.mul _ _ (S.pw (h d (Nat.le_refl d) hdn hb) k) (t.min K2 S (fun e a b' hbe => h e (by omega) b' hbe) y hy)
structure Ind (P : Pr) (H : List Int → Prop) (b : Nat → List Int) : Prop where
 sub : Sub P H
 mem : ∀ d, d < P.orders.length → b d ≠ [] → H (b d) ∧ T P d (b d) ∧ gt (b d) d = 1
 piv : ∀ x, H x → ∀ d, d < P.orders.length → T P d x → gt x d ≠ 0 → b d ≠ []
end
end Go.Proofs.YtmjkoejegfjbbaaGreat
namespace Go.Proofs.YtmjkoejegfjbbaaGreat
theorem depth_ex {P : Pr} {x : List Int} (hx : Vec P.orders x) (h : x ≠ zeros P.orders.length) : ∃ d, d < P.orders.length ∧ T P d x ∧ gt x d ≠ 0 := by
 have key : ∀ f d, d + f = P.orders.length → T P d x → ∃ d, d < P.orders.length ∧ T P d x ∧ gt x d ≠ 0 := by
  intro f
  induction f with
  | zero =>
   intro d hd hT
   exfalso; apply h
   have : d = P.orders.length := by omega
   subst this
   exact ext_gt (by rw [hx.1]; simp [zeros]) (fun k hk => by
    rw [hx.1] at hk
    rw [hT.2 k hk]; exact (gt_replicate _ _).symm)
  | succ f ih =>
   intro d hd hT
   by_cases h0 : gt x d = 0
   ·exact ih (d + 1) (by omega) (hT.up h0)
   ·exact ⟨d, by omega, hT, h0⟩
 exact key P.orders.length 0 (by omega) (T_zero.2 hx)
structure Red (P : Pr) (H : List Int → Prop) (r : Nat → List Int) : Prop extends Ind P H r where
 red : ∀ d e, d < e → e < P.orders.length → r d ≠ [] → r e ≠ [] → gt (r d) e = 0
def seqOf (n : Nat) (r : Nat → List Int) : List (List Int) := (List.range n).filterMap (fun d => if r d = [] then none else some (r d))
section
variable {P : Pr} (G : Grp P)
include G
def Rep (P : Pr) (H : List Int → Prop) (r : Nat → List Int) (x y : List Int) : Prop := Vec P.orders y ∧ H (rMul P (rInv P x) y) ∧ ∀ e, e < P.orders.length → r e ≠ [] → gt y e = 0
theorem Grp.coset_one {H : List Int → Prop} {b : Nat → List Int} (I : Ind P H b) {x y : List Int} (hx : Vec P.orders x) (hy : Vec P.orders y) (h : H (rMul P (rInv P x) y))
  (hx0 : ∀ e, e < P.orders.length → b e ≠ [] → gt x e = 0) (hy0 : ∀ e, e < P.orders.length → b e ≠ [] → gt y e = 0) : x = y := by
 have hxi := G.invV hx
 have e1 : rMul P x (rMul P (rInv P x) y) = y := by rw [← G.ass hx hxi hy, G.mul_inv hx, G.grp.el _ hy]
 by_cases hz : rMul P (rInv P x) y = zeros P.orders.length
 ·rw [hz, G.grp.er _ hx] at e1; exact e1
 ·exfalso
  have hzv := I.sub.vec _ h
  obtain ⟨e, he, hT, h0⟩ := depth_ex hzv hz
  have hp := I.piv _ h e he hT h0
  have h2 := (G.right (Nat.le_of_lt he) hx hT).2 he
  rw [e1, hx0 e he hp, hy0 e he hp, Int.zero_add] at h2
  have hb := hzv.2 e he
  rw [Int.emod_eq_of_lt hb.1 hb.2] at h2
  exact h0 h2.symm
theorem Grp.rep_one {H : List Int → Prop} {b : Nat → List Int} (I : Ind P H b) {x y y' : List Int} (hx : Vec P.orders x) (h : Rep P H b x y) (h' : Rep P H b x y') : y = y' := by
 refine G.coset_one I h.1 h'.1 ?_ h.2.2 h'.2.2
 have hi := G.invV hx
 have hyi := G.invV h.1
 have e : rMul P (rInv P y) y' = rMul P (rInv P (rMul P (rInv P x) y)) (rMul P (rInv P x) y') := by
  rw [G.inv_mulR hi h.1, G.inv_inv hx, G.ass hyi hx (G.mulV hi h'.1), ← G.ass hx hi h'.1, G.mul_inv hx, G.grp.el _ h'.1]
 rw [e]; exact I.sub.mul _ _ (I.sub.inv _ h.2.1) h'.2.1
theorem Grp.red_one {H : List Int → Prop} {r r' : Nat → List Int} (A : Red P H r) (B : Red P H r') : ∀ d, d < P.orders.length → r d = r' d := by
 intro d hd
 have pres : ∀ {s s' : Nat → List Int}, Ind P H s → Ind P H s' → ∀ e, e < P.orders.length → s e ≠ [] → s' e ≠ [] := fun I J e he h => by
  obtain ⟨h1, h2, h3⟩ := I.mem e he h
  exact J.piv _ h1 e he h2 (by rw [h3]; decide)
 by_cases h : r d = []
 ·by_cases h' : r' d = []
  ·rw [h, h']
  ·exact absurd h (pres B.toInd A.toInd d hd h')
 ·have h' := pres A.toInd B.toInd d hd h
  obtain ⟨a1, a2, a3⟩ := A.mem d hd h
  obtain ⟨b1, b2, b3⟩ := B.mem d hd h'
  -- the quotient lies deeper; compare by representatives
  have hz := G.diff hd a2 b2 (by rw [a3, b3])
  have hzH := A.sub.mul _ _ (A.sub.inv _ a1) b1
  have hai := G.invV a2.1
  have e1 : rMul P (r d) (rMul P (rInv P (r d)) (r' d)) = r' d := by rw [← G.ass a2.1 hai b2.1, G.mul_inv a2.1, G.grp.el _ b2.1]
  by_cases hz0 : rMul P (rInv P (r d)) (r' d) = zeros P.orders.length
  ·rw [hz0, G.grp.er _ a2.1] at e1; exact e1
  ·exfalso
   obtain ⟨e, he, hT, h0⟩ := depth_ex hz.1 hz0
   have hde : d < e := by
    have : ¬ e < d + 1 := fun h => h0 (hz.2 e h)
    omega
   have hp := A.piv _ hzH e he hT h0
   have hp' := pres A.toInd B.toInd e he hp
   have h2 := (G.right (Nat.le_of_lt he) a2.1 hT).2 he
   rw [e1, A.red d e hde he h hp, B.red d e hde he h' hp', Int.zero_add] at h2
   have hb := hz.1.2 e he
   rw [Int.emod_eq_of_lt hb.1 hb.2] at h2
   exact h0 h2.symm
omit G in
theorem seqOf_congr {n : Nat} {r r' : Nat → List Int} (h : ∀ d, d < n → r d = r' d) : seqOf n r = seqOf n r' := by
 unfold seqOf
 induction n with
 | zero => rfl
 | succ n ih =>
  have e := h n (by omega)
  rw [List.range_succ, List.filterMap_append, List.filterMap_append, ih (fun d hd => h d (by omega))]
  simp only [List.filterMap_cons, List.filterMap_nil, e]
theorem Grp.seq_one {H : List Int → Prop} {r r' : Nat → List Int} (A : Red P H r) (B : Red P H r') : seqOf P.orders.length r = seqOf P.orders.length r' :=
 seqOf_congr (G.red_one A B)
end
end Go.Proofs.YtmjkoejegfjbbaaGreat
namespace Go.Proofs.YtmjkoejegfjbbaaGreat
def genP (P : Pr) (Q : List Int → Prop) (x : List Int) : Prop := ∀ H, Sub P H → (∀ y, Q y → H y) → H x
structure AddInv (P : Pr) (Q : List Int → Prop) (b : Nat → List Int) (q : List (List Int)) (R : List Int → Prop) : Prop where
 tab : ∀ d, d < P.orders.length → b d ≠ [] → R (b d) ∧ T P d (b d) ∧ gt (b d) d = 1
 vec : ∀ x, R x → Vec P.orders x
 que : ∀ x ∈ q, R x
 src : ∀ x, Q x → R x
 step : ∀ x, R x → x = zeros P.orders.length ∨ x ∈ q ∨ ∃ d, d < P.orders.length ∧ T P d x ∧ gt x d ≠ 0 ∧ b d ≠ [] ∧ ∃ x', R x' ∧ T P (d + 1) x' ∧ ∀ K, Sub P K → K (b d) → K x' → K x
 pow : ∀ d, d < P.orders.length → b d ≠ [] → R (pw P (b d) (gt P.orders d).toNat)
 com : ∀ d e, d < e → e < P.orders.length → b d ≠ [] → b e ≠ [] → ∃ c, R c ∧ T P (d + 1) c ∧ ∀ K, Sub P K → K (b e) → K c → K (rConj P (b e) (b d))
 gen : ∀ x, R x → genP P Q x
section
variable {P : Pr} (G : Grp P)
include G
theorem Grp.genP_sub {Q : List Int → Prop} (hQ : ∀ y, Q y → Vec P.orders y) : Sub P (genP P Q) :=
 ⟨fun _ h => h _ G.sub_all hQ, fun _ S _ => S.one, fun _ _ h k _ S hH => S.mul _ _ (h _ S hH) (k _ S hH), fun _ h _ S hH => S.inv _ (h _ S hH)⟩
omit G in
theorem genP_mem {Q : List Int → Prop} {y : List Int} (hy : Q y) : genP P Q y := fun _ _ hH => hH y hy
omit G in
theorem genP_le {Q : List Int → Prop} {H : List Int → Prop} (S : Sub P H) (h : ∀ y, Q y → H y) {x : List Int} (hx : genP P Q x) : H x := hx _ S h
theorem Grp.addInv_start {H : List Int → Prop} {b : Nat → List Int} (I : Ind P H b) {list : List (List Int)} (hl : ∀ x ∈ list, Vec P.orders x) :
  AddInv P (fun x => H x ∨ x ∈ list) b list (fun x => H x ∨ x ∈ list) := by
 have S := I.sub
 refine ⟨fun d hd hb => ?_, ?_, fun x hx => .inr hx, fun x hx => hx, ?_, fun d hd hb => .inl (S.pw (I.mem d hd hb).1 _), fun d e hde he hbd hbe => ?_, fun x hx => genP_mem hx⟩
 ·obtain ⟨h1, h2, h3⟩ := I.mem d hd hb
  exact ⟨.inl h1, h2, h3⟩
 ·rintro x (h | h)
  ·exact S.vec x h
  ·exact hl x h
 ·rintro x (h | h)
  ·by_cases h0 : x = zeros P.orders.length
   ·exact .inl h0
   ·obtain ⟨d, hd, hT, hx0⟩ := depth_ex (S.vec x h) h0
    have hb := I.piv x h d hd hT hx0
    obtain ⟨m1, m2, m3⟩ := I.mem d hd hb
    have ho := G.v.ord7 d hd
    have hxd := hT.1.2 d hd
    refine .inr (.inr ⟨d, hd, hT, hx0, hb, rMul P (pw P (b d) (gt P.orders d - gt x d).toNat) x, .inl (S.mul _ _ (S.pw m1 _) h), ?_, fun K SK h1 h2 => ?_⟩)
    ·refine (G.T_mul (Nat.le_of_lt hd) (G.pw_T (Nat.le_of_lt hd) m2 _) hT).up ?_
     rw [(G.right (Nat.le_of_lt hd) (G.pw_vec m2.1 _) hT).2 hd, G.pw_at hd m2, m3, Int.mul_one, Int.emod_add_emod, show (((gt P.orders d - gt x d).toNat : Nat) : Int) + gt x d = gt P.orders d by omega, Int.emod_self]
    ·have h3 := SK.mul _ _ (SK.inv _ (SK.pw h1 (gt P.orders d - gt x d).toNat)) h2
     rwa [← G.ass (G.invV (G.pw_vec m2.1 _)) (G.pw_vec m2.1 _) hT.1, G.inv_mul (G.pw_vec m2.1 _), G.grp.el _ hT.1] at h3
  ·exact .inr (.inl h)
 ·obtain ⟨m1, m2, m3⟩ := I.mem d (by omega) hbd
  obtain ⟨k1, k2, k3⟩ := I.mem e he hbe
  have hk2 := k2.down (show d + 1 ≤ e by omega)
  refine ⟨_, .inl (S.mul _ _ (S.inv _ (S.mul _ _ m1 k1)) (S.mul _ _ k1 m1)), (G.comm_deep (by omega) m2 hk2).2, fun K SK h1 h2 => ?_⟩
  rw [G.conj_of_comm k2.1 m2.1]
  exact SK.mul _ _ h1 h2
omit G in
theorem addInv_sift {Q : List Int → Prop} {b : Nat → List Int} {q : List (List Int)} {R : List Int → Prop} {y y' : List Int} (A : AddInv P Q b (y :: q) R) {d : Nat} (hd : d < P.orders.length) (hT : T P d y) (h0 : gt y d ≠ 0) (hb : b d ≠ [])
  (hy' : T P (d + 1) y') (hK : ∀ K, Sub P K → K (b d) → K y' → K y) (hgen : ∀ K, Sub P K → K (b d) → K y → K y') : AddInv P Q b (y' :: q) (fun x => R x ∨ x = y') := by
 refine ⟨fun e he hbe => ⟨.inl (A.tab e he hbe).1, (A.tab e he hbe).2⟩, ?_, ?_, fun x hx => .inl (A.src x hx), ?_, fun e he hbe => .inl (A.pow e he hbe), fun d e hde he h1 h2 => ?_, ?_⟩
 ·rintro x (h | h)
  ·exact A.vec x h
  ·rw [h]; exact hy'.1
 ·intro x hx
  rcases List.mem_cons.1 hx with h | h
  ·exact .inr h
  ·exact .inl (A.que x (List.mem_cons_of_mem _ h))
 ·rintro x (h | h)
  ·rcases A.step x h with h1 | h1 | ⟨e, h2, h3, h4, h5, x', h6, h7, h8⟩
   ·exact .inl h1
   ·rcases List.mem_cons.1 h1 with h2 | h2
    ·rw [h2]; exact .inr (.inr ⟨d, hd, hT, h0, hb, y', .inr rfl, hy', hK⟩)
    ·exact .inr (.inl (List.mem_cons_of_mem _ h2))
   ·exact .inr (.inr ⟨e, h2, h3, h4, h5, x', .inl h6, h7, h8⟩)
  ·exact .inr (.inl (by rw [h]; exact List.mem_cons_self))
 ·obtain ⟨c, c1, c2⟩ := A.com d e hde he h1 h2
  exact ⟨c, .inl c1, c2⟩
 ·rintro x (h | h)
  ·exact A.gen x h
  ·rw [h]
   intro K S hQ
   exact hgen K S (A.gen _ (A.tab d hd hb).1 K S hQ) (A.gen _ (A.que y List.mem_cons_self) K S hQ)
omit G in
theorem addInv_drop {Q : List Int → Prop} {b : Nat → List Int} {q : List (List Int)} {R : List Int → Prop} {y : List Int} (A : AddInv P Q b (y :: q) R) (hy : y = zeros P.orders.length) : AddInv P Q b q R := by
 refine ⟨A.tab, A.vec, fun x hx => A.que x (List.mem_cons_of_mem _ hx), A.src, fun x hx => ?_, A.pow, A.com, A.gen⟩
 rcases A.step x hx with h1 | h1 | h1
 ·exact .inl h1
 ·rcases List.mem_cons.1 h1 with h2 | h2
  ·exact .inl (h2.trans hy)
  ·exact .inr (.inl h2)
 ·exact .inr (.inr h1)
theorem Grp.addInv_insert {Q : List Int → Prop} {b b' : Nat → List Int} {q q' : List (List Int)} {R : List Int → Prop} {y z : List Int} (A : AddInv P Q b (y :: q) R) {d : Nat} (hd : d < P.orders.length) (hT : T P d y) (hb : b d = [])
  (hz : T P d z) (hz1 : gt z d = 1) (hgz : ∀ K, Sub P K → K y → K z) (hb' : ∀ e, e < P.orders.length → b' e = if e = d then z else b e)
  (hq1 : ∀ x ∈ q', x ∈ q ∨ x = y ∨ x = z ∨ x = pw P z (gt P.orders d).toNat ∨ ∃ e, e < P.orders.length ∧ b e ≠ [] ∧ (x = rMul P (rInv P (rMul P z (b e))) (rMul P (b e) z) ∨ x = rMul P (rInv P (rMul P (b e) z)) (rMul P z (b e))))
  (hq2 : ∀ x, x ∈ q ∨ x = y ∨ x = pw P z (gt P.orders d).toNat → x ∈ q')
  (hq3 : ∀ e, e < P.orders.length → b e ≠ [] → rMul P (rInv P (rMul P z (b e))) (rMul P (b e) z) ∈ q' ∨ rMul P (rInv P (rMul P (b e) z)) (rMul P z (b e)) ∈ q') :
  AddInv P Q b' q' (fun x => R x ∨ x = z ∨ x ∈ q') := by
 have ho := G.v.ord7 d hd
 have hzV := hz.1
 have hold : ∀ e, e < P.orders.length → b e ≠ [] → b' e = b e := fun e he hbe => by
  rw [hb' e he, if_neg (fun h => hbe (by rw [h]; exact hb))]
 have hcase : ∀ e, e < P.orders.length → b' e ≠ [] → (e = d ∧ b' e = z) ∨ (e ≠ d ∧ b e ≠ [] ∧ b' e = b e) := fun e he hbe => by
  by_cases h : e = d
  ·exact .inl ⟨h, by rw [hb' e he, if_pos h]⟩
  ·have h2 : b' e = b e := by rw [hb' e he, if_neg h]
   exact .inr ⟨h, by rw [← h2]; exact hbe, h2⟩
 have hbd' : b' d = z := by rw [hb' d hd, if_pos rfl]
 have hzne : z ≠ [] := by
  intro h
  have := hzV.1
  rw [h] at this; simp at this; omega
 have hqv : ∀ x ∈ q', Vec P.orders x ∧ genP P Q x := by
  have hgy := A.gen y (A.que y List.mem_cons_self)
  have hgz' : genP P Q z := fun K S hQ => hgz K S (hgy K S hQ)
  intro x hx
  rcases hq1 x hx with h | h | h | h | ⟨e, he, hbe, h | h⟩
  ·have := A.que x (List.mem_cons_of_mem _ h); exact ⟨A.vec x this, A.gen x this⟩
  ·rw [h]; exact ⟨hT.1, hgy⟩
  ·rw [h]; exact ⟨hzV, hgz'⟩
  ·rw [h]; exact ⟨G.pw_vec hzV _, fun K S hQ => S.pw (hgz' K S hQ) _⟩
  ·have hbV := (A.tab e he hbe).2.1.1
   have hgb := A.gen _ (A.tab e he hbe).1
   rw [h]
   exact ⟨G.mulV (G.invV (G.mulV hzV hbV)) (G.mulV hbV hzV), fun K S hQ => S.mul _ _ (S.inv _ (S.mul _ _ (hgz' K S hQ) (hgb K S hQ))) (S.mul _ _ (hgb K S hQ) (hgz' K S hQ))⟩
  ·have hbV := (A.tab e he hbe).2.1.1
   have hgb := A.gen _ (A.tab e he hbe).1
   rw [h]
   exact ⟨G.mulV (G.invV (G.mulV hbV hzV)) (G.mulV hzV hbV), fun K S hQ => S.mul _ _ (S.inv _ (S.mul _ _ (hgb K S hQ) (hgz' K S hQ))) (S.mul _ _ (hgz' K S hQ) (hgb K S hQ))⟩
 have hpz : T P (d + 1) (pw P z (gt P.orders d).toNat) := G.pw_order hd hz
 refine ⟨fun e he hbe => ?_, ?_, fun x hx => .inr (.inr hx), fun x hx => .inl (A.src x hx), ?_, fun e he hbe => ?_, fun e1 e2 hlt he2 h1 h2 => ?_, ?_⟩
 ·rcases hcase e he hbe with ⟨h1, h2⟩ | ⟨h1, h2, h3⟩
  ·subst h1; rw [h2]; exact ⟨.inr (.inl rfl), hz, hz1⟩
  ·rw [h3]; exact ⟨.inl (A.tab e he h2).1, (A.tab e he h2).2⟩
 ·rintro x (h | h | h)
  ·exact A.vec x h
  ·rw [h]; exact hzV
  ·exact (hqv x h).1
 ·rintro x (h | h | h)
  ·rcases A.step x h with h1 | h1 | ⟨e, h2, h3, h4, h5, x', h6, h7, h8⟩
   ·exact .inl h1
   ·rcases List.mem_cons.1 h1 with h2 | h2
    ·exact .inr (.inl (hq2 x (.inr (.inl h2))))
    ·exact .inr (.inl (hq2 x (.inl h2)))
   ·refine .inr (.inr ⟨e, h2, h3, h4, by rw [hold e h2 h5]; exact h5, x', .inl h6, h7, ?_⟩)
    rw [hold e h2 h5]; exact h8
  ·-- the new entry itself: its power with the order, times its inverse
   subst h
   refine .inr (.inr ⟨d, hd, hz, by rw [hz1]; decide, by rw [hbd']; exact hzne, pw P x (gt P.orders d).toNat, .inr (.inr (hq2 _ (.inr (.inr rfl)))), hpz, fun K _ hk _ => by rw [hbd'] at hk; exact hk⟩)
  ·exact .inr (.inl h)
 ·rcases hcase e he hbe with ⟨h1, h2⟩ | ⟨h1, h2, h3⟩
  ·subst h1; rw [h2]; exact .inr (.inr (hq2 _ (.inr (.inr rfl))))
  ·rw [h3]; exact .inl (A.pow e he h2)
 ·rcases hcase e1 (by omega) h1 with ⟨a1, a2⟩ | ⟨a1, a2, a3⟩
  ·rcases hcase e2 he2 h2 with ⟨b1, b2⟩ | ⟨b1, b2, b3⟩
   ·omega
   ·subst a1
    rw [a2, b3]
    obtain ⟨k1, k2, k3⟩ := A.tab e2 he2 b2
    have hk2 := k2.down (show e1 + 1 ≤ e2 by omega)
    have hcd := G.comm_deep hd hz hk2
    rcases hq3 e2 he2 b2 with hm | hm
    ·refine ⟨_, .inr (.inr hm), hcd.2, fun K SK g1 g2 => ?_⟩
     rw [G.conj_of_comm k2.1 hzV]; exact SK.mul _ _ g1 g2
    ·refine ⟨_, .inr (.inr hm), hcd.1, fun K SK g1 g2 => ?_⟩
     rw [G.conj_of_comm k2.1 hzV, ← G.comm_inv k2.1 hzV]; exact SK.mul _ _ g1 (SK.inv _ g2)
  ·rcases hcase e2 he2 h2 with ⟨b1, b2⟩ | ⟨b1, b2, b3⟩
   ·subst b1
    rw [a3, b2]
    obtain ⟨k1, k2, k3⟩ := A.tab e1 (by omega) a2
    have hz2 := hz.down (show e1 + 1 ≤ e2 by omega)
    have hcd := G.comm_deep (by omega) k2 hz2
    rcases hq3 e1 (by omega) a2 with hm | hm
    ·refine ⟨_, .inr (.inr hm), hcd.1, fun K SK g1 g2 => ?_⟩
     rw [G.conj_of_comm hzV k2.1, ← G.comm_inv hzV k2.1]; exact SK.mul _ _ g1 (SK.inv _ g2)
    ·refine ⟨_, .inr (.inr hm), hcd.2, fun K SK g1 g2 => ?_⟩
     rw [G.conj_of_comm hzV k2.1]; exact SK.mul _ _ g1 g2
   ·rw [a3, b3]
    obtain ⟨c, c1, c2⟩ := A.com e1 e2 hlt he2 a2 b2
    exact ⟨c, .inl c1, c2⟩
 ·rintro x (h | h | h)
  ·exact A.gen x h
  ·rw [h]; intro K S hQ; exact hgz K S (A.gen _ (A.que y List.mem_cons_self) K S hQ)
  ·exact (hqv x h).2
theorem Grp.addInv_end {Q : List Int → Prop} {b : Nat → List Int} {R : List Int → Prop} (A : AddInv P Q b [] R) : Ind P (genP P Q) b := by
 have C : Closed P b R := by
  refine ⟨fun d hd hb => (A.tab d hd hb).2, A.vec, fun q hq => ?_, A.pow, A.com⟩
  rcases A.step q hq with h | h | h
  ·exact .inl h
  ·cases h
  ·exact .inr h
 obtain ⟨K, t⟩ := G.tailSub C P.orders.length 0 (by omega)
 have hgs := G.genP_sub (Q := Q) (fun y hy => A.vec y (A.src y hy))
 have hLK : ∀ x, genP P Q x → K x := fun x hx => genP_le t.sub (fun y hy => t.res y (A.src y hy) (T_zero.2 (A.vec y (A.src y hy)))) hx
 exact ⟨hgs, fun d hd hbd => ⟨A.gen _ (A.tab d hd hbd).1, (A.tab d hd hbd).2⟩, fun x hx d hd hT h0 => t.piv x (hLK x hx) d (by omega) hd hT h0⟩
end
end Go.Proofs.YtmjkoejegfjbbaaGreat
namespace Go.Proofs.YtmjkoejegfjbbaaGreat
def dep (x : List Int) : Nat := x.findIdx (fun e => e != 0)
theorem dep_le (x : List Int) : dep x ≤ x.length := List.findIdx_le_length
theorem dep_zero {x : List Int} {k : Nat} (h : k < dep x) : gt x k = 0 := by
 have hl : k < x.length := Nat.lt_of_lt_of_le h (dep_le x)
 have := List.not_of_lt_findIdx h
 rw [gt_eq x k hl]; simpa using this
theorem dep_ne {x : List Int} (h : dep x < x.length) : gt x (dep x) ≠ 0 := by
 have h2 := List.findIdx_getElem (xs := x) (p := fun e => e != 0) (w := h)
 rw [gt_eq x _ h]
 show ¬ (x[List.findIdx (fun e => e != 0) x] = 0)
 simpa using h2
theorem dep_eq {x : List Int} {d : Nat} (hd : d < x.length) (hz : ∀ k, k < d → gt x k = 0) (h0 : gt x d ≠ 0) : dep x = d := by
 rcases Nat.lt_trichotomy (dep x) d with h | h | h
 ·exact absurd (hz _ h) (dep_ne (by omega))
 ·exact h
 ·exact absurd (dep_zero h) h0
theorem dep_T {P : Pr} {x : List Int} (hx : Vec P.orders x) : T P (dep x) x := ⟨hx, fun _ hk => dep_zero hk⟩
theorem dep_top {P : Pr} {x : List Int} (hP : Valid P) (hx : Vec P.orders x) : dep x = P.orders.length ↔ x = zeros P.orders.length := by
 constructor
 ·intro h
  have := dep_T hx
  rw [h] at this
  exact this.top hP
 ·intro h
  rcases Nat.lt_or_ge (dep x) x.length with h1 | h1
  ·exfalso
   apply dep_ne h1
   have : ∀ k, gt (zeros P.orders.length) k = 0 := fun k => gt_replicate _ _
   rw [h]; exact this _
  ·have := dep_le x
   rw [← hx.1]; omega
theorem dep_lead {P : Pr} {x : List Int} {d : Nat} (hd : d < P.orders.length) (hT : T P d x) (h0 : gt x d ≠ 0) : dep x = d := dep_eq (by rw [hT.1.1]; exact hd) hT.2 h0
section
variable {P : Pr} (G : Grp P)
include G
theorem Grp.clear {d : Nat} (hd : d < P.orders.length) {x z : List Int} (hx : Vec P.orders x) (hz : T P d z) (hz1 : gt z d = 1) (k : Nat) (hk : ((k : Int) + gt x d) % gt P.orders d = 0) :
  gt (rMul P x (pw P z k)) d = 0 ∧ ∀ j, j < d → gt (rMul P x (pw P z k)) j = gt x j := by
 have hp := G.pw_T (Nat.le_of_lt hd) hz k
 have h := G.right (Nat.le_of_lt hd) hx hp
 refine ⟨?_, h.1⟩
 rw [h.2 hd, G.pw_at hd hz, hz1, Int.mul_one, Int.add_emod_emod, Int.add_comm]; exact hk
theorem Grp.rep_from {H : List Int → Prop} {b : Nat → List Int} (I : Ind P H b) (f : Nat) : ∀ d x, d + f = P.orders.length → Vec P.orders x → ∃ y h, H h ∧ T P d h ∧ y = rMul P x h ∧ Vec P.orders y ∧ ∀ e, d ≤ e → e < P.orders.length → b e ≠ [] → gt y e = 0 := by
 induction f with
 | zero =>
  intro d x hd hx
  exact ⟨x, _, I.sub.one, T.zeros G.v d, (G.grp.er x hx).symm, hx, fun e a b' => by omega⟩
 | succ f ih =>
  intro d x hd hx
  have hdn : d < P.orders.length := by omega
  by_cases hb : b d = []
  ·obtain ⟨y, h, h1, h2, h3, h4, h5⟩ := ih (d + 1) x (by omega) hx
   refine ⟨y, h, h1, h2.down (Nat.le_succ d), h3, h4, fun e a b' hbe => ?_⟩
   by_cases ed : e = d
   ·subst ed; exact absurd hb hbe
   ·exact h5 e (by omega) b' hbe
  ·obtain ⟨m1, m2, m3⟩ := I.mem d hdn hb
   have ho := G.v.ord7 d hdn
   have hxd := hx.2 d hdn
   have hpv := G.pw_vec m2.1 (gt P.orders d - gt x d).toNat
   have hpT := G.pw_T (Nat.le_of_lt hdn) m2 (gt P.orders d - gt x d).toNat
   have hc := G.clear hdn hx m2 m3 (gt P.orders d - gt x d).toNat (by
    rw [show (((gt P.orders d - gt x d).toNat : Nat) : Int) + gt x d = gt P.orders d by omega, Int.emod_self])
   obtain ⟨y, h, h1, h2, h3, h4, h5⟩ := ih (d + 1) _ (by omega) (G.mulV hx hpv)
   refine ⟨y, rMul P (pw P (b d) (gt P.orders d - gt x d).toNat) h, I.sub.mul _ _ (I.sub.pw m1 _) h1, G.T_mul (Nat.le_of_lt hdn) hpT (h2.down (Nat.le_succ d)), ?_, h4, fun e a b' hbe => ?_⟩
   ·rw [h3, G.ass hx hpv h2.1]
   ·by_cases ed : e = d
    ·subst ed
     rw [h3, (G.right (Nat.succ_le_of_lt hdn) (G.mulV hx hpv) h2).1 e (by omega)]; exact hc.1
    ·exact h5 e (by omega) b' hbe
theorem Grp.rep_ex {H : List Int → Prop} {b : Nat → List Int} (I : Ind P H b) {x : List Int} (hx : Vec P.orders x) : ∃ y, Rep P H b x y := by
 obtain ⟨y, h, h1, h2, h3, h4, h5⟩ := G.rep_from I P.orders.length 0 x (by omega) hx
 refine ⟨y, h4, ?_, fun e he hb => h5 e (by omega) he hb⟩
 rw [h3, ← G.ass (G.invV hx) hx h2.1, G.inv_mul hx, G.grp.el _ h2.1]; exact h1
theorem Grp.red_of_ind {H : List Int → Prop} {b : Nat → List Int} (I : Ind P H b) : ∃ r, Red P H r := by
 have key : ∀ d, ∃ y, (b d = [] → y = []) ∧ (d < P.orders.length → b d ≠ [] → y ≠ [] ∧ H y ∧ T P d y ∧ gt y d = 1 ∧ ∀ e, d < e → e < P.orders.length → b e ≠ [] → gt y e = 0) := by
  intro d
  by_cases hb : b d = []
  ·exact ⟨[], fun _ => rfl, fun _ h => absurd hb h⟩
  ·by_cases hd : d < P.orders.length
   ·obtain ⟨m1, m2, m3⟩ := I.mem d hd hb
    obtain ⟨y, h, h1, h2, h3, h4, h5⟩ := G.rep_from I (P.orders.length - (d + 1)) (d + 1) (b d) (by omega) m2.1
    have hyT : T P d y := by rw [h3]; exact G.T_mul (Nat.le_of_lt hd) m2 (h2.down (Nat.le_succ d))
    refine ⟨y, fun h => absurd h hb, fun _ _ => ⟨?_, ?_, hyT, ?_, fun e a b' hbe => h5 e (by omega) b' hbe⟩⟩
    ·intro e
     have := h4.1
     rw [e] at this; simp at this; omega
    ·rw [h3]; exact I.sub.mul _ _ m1 h1
    ·rw [h3, (G.right (Nat.succ_le_of_lt hd) m2.1 h2).1 d (by omega)]; exact m3
   ·exact ⟨[], fun _ => rfl, fun h => absurd h hd⟩
 have hex := fun d => key d
 refine ⟨fun d => Classical.choose (hex d), ⟨⟨I.sub, fun d hd hr => ?_, fun x hx d hd hT h0 => ?_⟩, fun d e hde he h1 h2 => ?_⟩⟩
 ·have s := Classical.choose_spec (hex d)
  have hb : b d ≠ [] := fun h => hr (s.1 h)
  have := s.2 hd hb
  exact ⟨this.2.1, this.2.2.1, this.2.2.2.1⟩
 ·have s := Classical.choose_spec (hex d)
  exact (s.2 hd (I.piv x hx d hd hT h0)).1
 ·have s := Classical.choose_spec (hex d)
  have s2 := Classical.choose_spec (hex e)
  have hb : b d ≠ [] := fun h => h1 (s.1 h)
  have hb2 : b e ≠ [] := fun h => h2 (s2.1 h)
  exact (s.2 (by omega) hb).2.2.2.2 e hde he hb2
omit G in
theorem unit_ex {o a : Int} (ho : o = 2 ∨ o = 3 ∨ o = 5 ∨ o = 7) (ha : 0 < a) (hao : a < o) : ∃ k : Nat, ((k : Int) * a) % o = 1 := by
 rcases ho with rfl | rfl | rfl | rfl
 ·exact ⟨1, by have : a = 1 := (by omega); subst this; rfl⟩
 ·rcases (show a = 1 ∨ a = 2 by omega) with rfl | rfl
  ·exact ⟨1, rfl⟩
  ·exact ⟨2, rfl⟩
 ·rcases (show a = 1 ∨ a = 2 ∨ a = 3 ∨ a = 4 by omega) with rfl | rfl | rfl | rfl
  ·exact ⟨1, rfl⟩
  ·exact ⟨3, rfl⟩
  ·exact ⟨2, rfl⟩
  ·exact ⟨4, rfl⟩
 ·rcases (show a = 1 ∨ a = 2 ∨ a = 3 ∨ a = 4 ∨ a = 5 ∨ a = 6 by omega) with rfl | rfl | rfl | rfl | rfl | rfl
  ·exact ⟨1, rfl⟩
  ·exact ⟨4, rfl⟩
  ·exact ⟨5, rfl⟩
  ·exact ⟨2, rfl⟩
  ·exact ⟨3, rfl⟩
  ·exact ⟨6, rfl⟩
open Classical in
theorem Grp.ind_ex {H : List Int → Prop} (S : Sub P H) : ∃ b, Ind P H b := by
 refine ⟨fun d => if h : ∃ y, d < P.orders.length ∧ H y ∧ T P d y ∧ gt y d = 1 then Classical.choose h else [], S, fun d _ hb => ?_, fun x hx d hd hT h0 => ?_⟩
 ·by_cases h : ∃ y, d < P.orders.length ∧ H y ∧ T P d y ∧ gt y d = 1
  ·simp only [dif_pos h] at hb ⊢
   exact (Classical.choose_spec h).2
  ·simp only [dif_neg h] at hb; exact absurd rfl hb
 ·have hxd := hT.1.2 d hd
  obtain ⟨k, hk⟩ := unit_ex (G.v.ord d hd) (by omega) hxd.2
  have h : ∃ y, d < P.orders.length ∧ H y ∧ T P d y ∧ gt y d = 1 := ⟨pw P x k, hd, S.pw hx k, G.pw_T (Nat.le_of_lt hd) hT k, by rw [G.pw_at hd hT]; exact hk⟩
  simp only [dif_pos h]
  have hc := (Classical.choose_spec h).2.2.1.1.1
  intro e
  rw [e] at hc; simp at hc; omega
open Classical in
noncomputable def cseq (P : Pr) (H : List Int → Prop) : List (List Int) := if h : ∃ r, Red P H r then seqOf P.orders.length (Classical.choose h) else []
theorem Grp.cseq_red {H : List Int → Prop} {r : Nat → List Int} (A : Red P H r) : cseq P H = seqOf P.orders.length r := by
 unfold cseq
 have h : ∃ r, Red P H r := ⟨r, A⟩
 rw [dif_pos h]
 exact G.seq_one (Classical.choose_spec h) A
theorem Grp.cseq_spec {H : List Int → Prop} (S : Sub P H) : ∃ r, Red P H r ∧ cseq P H = seqOf P.orders.length r := by
 obtain ⟨b, I⟩ := G.ind_ex S
 obtain ⟨r, A⟩ := G.red_of_ind I
 exact ⟨r, A, G.cseq_red A⟩
end
/-! ### a sequence as a list -/
end Go.Proofs.YtmjkoejegfjbbaaGreat
