/-
  Plain: a level without a fault makes the tail before it a group; so the two sides' words 'consistent' agree, and in a consistent presentation the two products.
-/
import Derived.Test.YtdfjgpioaomceaaLvl
namespace Go.Proofs.Ytdfjgpioaomceaa

section
variable {P : Pr} {f i : Nat}

/-- a pair as a vector -/
def prV (i : Nat) (p : Nat × List Int) : List Int := p.2.set i (p.1 : Int)

theorem prV_T (hP : Valid P) (hi : i < P.orders.length) {p : Nat × List Int} (hp : ExS (T P (i + 1)) (gt P.orders i).toNat p) : T P i (prV i p) := by
  have ho := hP.ord7 i hi
  have h1 := hp.1
  exact hp.2.put ⟨by omega, fun _ => by omega⟩

theorem prV_sur (hP : Valid P) (hi : i < P.orders.length) {x : List Int} (hx : T P i x) : ∃ p, ExS (T P (i + 1)) (gt P.orders i).toNat p ∧ prV i p = x := by
  have ho := hP.ord7 i hi
  have hxi := hx.1.2 i hi
  refine ⟨((gt x i).toNat, x.set i 0), ⟨by show (gt x i).toNat < _; omega, hx.drop hP hi⟩, ?_⟩
  unfold prV
  simp only [List.set_set]
  refine ext_gt (by simp) (fun k hk => ?_)
  rw [List.length_set] at hk
  rw [gt_set_if _ _ _ _ hk]
  split
  · rename_i h; subst h; omega
  · rfl

theorem set_zero_of {x : List Int} (h : T P (i + 1) x) : x.set i 0 = x := by
  refine ext_gt (by simp) (fun k hk => ?_)
  rw [List.length_set] at hk
  rw [gt_set_if _ _ _ _ hk]
  split
  · rename_i e; subst e; exact (h.2 i (by omega)).symm
  · rfl

theorem prV_mul (hP : Valid P) (hi : i + (f + 1) = P.orders.length) (p q : Nat × List Int) (hp : ExS (T P (i + 1)) (gt P.orders i).toNat p) (hq : ExS (T P (i + 1)) (gt P.orders i).toNat q) :
    rAt P (f + 1) i (prV i p) (prV i q) = prV i (exm (rAt P f (i + 1)) (rImage P f i) (gt P.powers i) (gt P.orders i).toNat p q) := by
  obtain ⟨a, x⟩ := p
  obtain ⟨b, y⟩ := q
  obtain ⟨ha, hx⟩ := hp
  obtain ⟨hb, hy⟩ := hq
  simp only at ha hb hx hy
  have ho := hP.ord7 i (by omega)
  have ga : gt (prV i (a, x)) i = (a : Int) := gt_set_eq _ _ _ (by show i < x.length; rw [hx.1.1]; omega)
  have gb : gt (prV i (b, y)) i = (b : Int) := gt_set_eq _ _ _ (by show i < y.length; rw [hy.1.1]; omega)
  have sa : (prV i (a, x)).set i 0 = x := by unfold prV; rw [List.set_set]; exact set_zero_of hx
  have sb : (prV i (b, y)).set i 0 = y := by unfold prV; rw [List.set_set]; exact set_zero_of hy
  simp only [rAt, ga, gb, sa, sb]
  unfold exm
  simp only
  have him : (fun l => rImgTo (rAt P f (i + 1)) (gt P.conj i) i l (zeros P.orders.length) f) = rImage P f i := rfl
  rw [him, show ((b : Int)).toNat = b by omega]
  by_cases hc : (gt P.orders i).toNat ≤ a + b
  · rw [if_pos (by omega), if_pos hc]
    unfold prV
    simp only
    congr 1
    omega
  · rw [if_neg (by omega), if_neg hc]
    unfold prV
    simp only
    congr 1

/-- what a faultless level gives -/
theorem Lvl.ext (hP : Valid P) (hi : i + (f + 1) = P.orders.length) (L : Lvl P f (i + 1)) (R : RLevel P f i) :
    ExtOk (T P (i + 1)) (rAt P f (i + 1)) (zeros P.orders.length) (rImage P f i) (gt P.powers i) (gt P.orders i).toNat ∧
      ∀ j, i < j → j < P.orders.length → rImage P f i (unitV P.orders.length j) = gt (gt P.conj i) (j - i - 1) := by
  have M := L.grp.toMonOn
  have ho := hP.ord7 i (by omega)
  have hf : P.orders.length - (i + 1) = f := by omega
  have hmem : ∀ j, i + 1 ≤ j → j < P.orders.length → T P (i + 1) (gt (gt P.conj i) (j - i - 1)) := fun j a b => cj_T hP (by omega) b
  have hImg : ∀ x, rImage P f i x = npr (rAt P f (i + 1)) (fun j => gt (gt P.conj i) (j - i - 1)) x (i + 1) (zeros P.orders.length) f := fun x => by
    unfold rImage npr; rw [rImgTo_acc]
  have hImgAt : ∀ (j : Nat) (x : List Int), i < j → j < P.orders.length → ZeroTo j x → rImage P f i x = npr (rAt P f (i + 1)) (fun j => gt (gt P.conj i) (j - i - 1)) x (j + 1) (zeros P.orders.length) (P.orders.length - (j + 1)) := fun j x a b hz => by
    rw [hImg]
    unfold npr
    rw [show f = (j - i) + (P.orders.length - (j + 1)) by omega, acc_split, acc_zero _ _ _ _ (j - i) (fun k _ c => hz k (by omega)), show i + 1 + (j - i) = j + 1 by omega]
  have H : Holds P (T P (i + 1)) (rAt P f (i + 1)) (zeros P.orders.length) (fun j => gt (gt P.conj i) (j - i - 1)) (i + 1) := by
    refine ⟨hmem, fun j a b => ?_, fun j k a b c => ?_⟩
    · have h := R.c1 j (by omega) b
      unfold RCond1 at h
      rw [L.rRep_eq (hmem j a b), hImgAt j _ (by omega) b (hP.pv j b).2] at h
      exact h
    · have h := R.c2 j k (by omega) b c
      unfold RCond2 at h
      rw [hImgAt j _ (by omega) (by omega) ((hP.cv j (by omega)).2 (k - j - 1) (by omega)).2] at h
      exact h
  have hom : ∀ A B, Vec P.orders A → Vec P.orders B → rImage P f i (rAt P f (i + 1) A B) = rAt P f (i + 1) (rImage P f i A) (rImage P f i B) := fun A B hA hB => by
    rw [hImg, hImg, hImg]
    exact vd_at hP M f (i + 1) (by omega) H A B hA hB
  have hunit : ∀ j, i < j → j < P.orders.length → rImage P f i (unitV P.orders.length j) = gt (gt P.conj i) (j - i - 1) := fun j a b => by
    rw [hImg]
    unfold npr
    rw [show f = (j - (i + 1)) + ((P.orders.length - (j + 1)) + 1) by omega, acc_split, acc_zero _ _ _ _ (j - (i + 1)) (fun k _ c => by rw [gt_unit _ _ _ (by omega), if_neg (by omega)]), acc_front, show i + 1 + (j - (i + 1)) = j by omega,
      acc_zero _ _ (j + 1) _ _ (fun k c d => by rw [gt_unit _ _ _ (by omega), if_neg (by omega)]), gt_unit _ _ _ b, if_pos rfl]
    show rAt P _ (i + 1) (zeros P.orders.length) _ = _
    rw [show j - (i + 1) + (P.orders.length - (j + 1) + 1) = f by omega]
    exact M.el _ (hmem j (by omega) b)
  refine ⟨?_, hunit⟩
  have hw := pw_T (i := i) hP (by omega)
  have ihom : ∀ (k : Nat) (x y : List Int), T P (i + 1) x → T P (i + 1) y → iter k (rImage P f i) (rAt P f (i + 1) x y) = rAt P f (i + 1) (iter k (rImage P f i) x) (iter k (rImage P f i) y) := by
    intro k x y hx hy
    have := (iter_rel (fun (u : List Int) (v : List Int × List Int) => T P (i + 1) v.1 ∧ T P (i + 1) v.2 ∧ u = rAt P f (i + 1) v.1 v.2) (rImage P f i) (fun v => (rImage P f i v.1, rImage P f i v.2)) (by
      rintro u ⟨v1, v2⟩ ⟨h1, h2, rfl⟩
      exact ⟨rImage_T hP hi _, rImage_T hP hi _, hom _ _ h1.1 h2.1⟩) k (rAt P f (i + 1) x y) (x, y) ⟨hx, hy, rfl⟩).2.2
    rw [this]
    have e : ∀ k, iter k (fun v : List Int × List Int => (rImage P f i v.1, rImage P f i v.2)) (x, y) = (iter k (rImage P f i) x, iter k (rImage P f i) y) := by
      intro k
      induction k with
      | zero => rfl
      | succ k ih => show (fun v : List Int × List Int => (rImage P f i v.1, rImage P f i v.2)) (iter k _ (x, y)) = _; rw [ih]; rfl
    rw [e]
  have icl : ∀ (k : Nat) (x : List Int), T P (i + 1) x → T P (i + 1) (iter k (rImage P f i) x) := fun k x hx => iter_inv (T P (i + 1)) _ (fun y _ => rImage_T hP hi y) k x hx
  refine ⟨by omega, L.grp, fun x _ => rImage_T hP hi x, fun x y hx hy => hom x y hx.1 hy.1, hw, R.c3, ?_⟩
  intro x hx
  have hone : rImage P f i (zeros P.orders.length) = zeros P.orders.length := by
    rw [hImg]; exact acc_zero _ _ _ _ _ (fun j _ _ => gt_replicate _ _)
  have hione : ∀ k, iter k (rImage P f i) (zeros P.orders.length) = zeros P.orders.length := by
    intro k
    induction k with
    | zero => rfl
    | succ k ih => show rImage P f i (iter k _ _) = _; rw [ih, hone]
  have key : (fun y => T P (i + 1) y ∧ rAt P f (i + 1) (gt P.powers i) (iter (gt P.orders i).toNat (rImage P f i) y) = rAt P f (i + 1) y (gt P.powers i)) (npr (rAt P f (i + 1)) (unitV P.orders.length) x (i + 1) (zeros P.orders.length) f) := by
    unfold npr
    refine acc_inv (fun y => T P (i + 1) y ∧ rAt P f (i + 1) (gt P.powers i) (iter (gt P.orders i).toNat (rImage P f i) y) = rAt P f (i + 1) y (gt P.powers i)) _ _ _ _ _ ⟨L.grp.one, by rw [hione, M.er _ hw, M.el _ hw]⟩ (fun y j hy a b _ => ?_)
    obtain ⟨h1, h2⟩ := hy
    have hu : T P (i + 1) (unitV P.orders.length j) := T.unit hP a (by omega)
    have h4 := R.c4 j (by omega) (by omega)
    unfold RCond4 at h4
    refine ⟨M.cl _ _ h1 hu, ?_⟩
    rw [ihom _ _ _ h1 hu, ← M.ass _ _ _ hw (icl _ _ h1) (icl _ _ hu), h2, M.ass _ _ _ h1 hw (icl _ _ hu)]
    have h5 : rAt P f (i + 1) (gt P.powers i) (iter (gt P.orders i).toNat (rImage P f i) (unitV P.orders.length j)) = rAt P f (i + 1) (unitV P.orders.length j) (gt P.powers i) := h4
    rw [h5, M.ass _ _ _ h1 hu hw]
  rw [L.nf x hx] at key
  exact key.2

theorem Lvl.step (hP : Valid P) (hi : i + (f + 1) = P.orders.length) (L : Lvl P f (i + 1)) (R : RLevel P f i) : Lvl P (f + 1) i := by
  obtain ⟨E, hunit⟩ := L.ext hP hi R
  have hin : i < P.orders.length := by omega
  have ho := hP.ord7 i hin
  have M' := L.grp.toMonOn
  have hz0 : prV i (0, zeros P.orders.length) = zeros P.orders.length := set_zero_of (P := P) (T.zeros hP (i + 1))
  have G : GrpOn (T P i) (rAt P (f + 1) i) (zeros P.orders.length) :=
    E.group.carry (prV i) (fun p hp => prV_T hP hin hp) (fun y hy => prV_sur hP hin hy) hz0 (fun p q hp hq => prV_mul hP hi p q hp hq)
  have M := G.toMonOn
  have e0 : ∀ x, T P (i + 1) x → prV i (0, x) = x := fun x hx => set_zero_of hx
  have s0 : ∀ x, T P (i + 1) x → ExS (T P (i + 1)) (gt P.orders i).toNat (0, x) := fun x hx => ⟨by show 0 < _; omega, hx⟩
  -- the product restricted
  have res : ∀ x y, T P (i + 1) x → T P (i + 1) y → rAt P (f + 1) i x y = rAt P f (i + 1) x y := fun x y hx hy => by
    have h := prV_mul hP hi (0, x) (0, y) (s0 x hx) (s0 y hy)
    rw [e0 x hx, e0 y hy] at h
    rw [h]
    unfold exm
    simp only [Nat.add_zero, if_neg (by omega : ¬ (gt P.orders i).toNat ≤ 0)]
    exact e0 _ (M'.cl _ _ hx hy)
  have resN : ∀ (x : List Int) (j k : Nat), i + 1 ≤ j → j + k = P.orders.length → npr (rAt P (f + 1) i) (unitV P.orders.length) x j (zeros P.orders.length) k = npr (rAt P f (i + 1)) (unitV P.orders.length) x j (zeros P.orders.length) k ∧
      T P (i + 1) (npr (rAt P f (i + 1)) (unitV P.orders.length) x j (zeros P.orders.length) k) := fun x j k hj hk => by
    have := acc_rel (fun (y z : List Int) => T P (i + 1) z ∧ y = z) (fun y j => rAt P (f + 1) i y (unitV P.orders.length j)) (fun y j => rAt P f (i + 1) y (unitV P.orders.length j)) x j (zeros P.orders.length) (zeros P.orders.length) k ⟨L.grp.one, rfl⟩ (by
      rintro y z l ⟨h1, rfl⟩ a b _
      have hu : T P (i + 1) (unitV P.orders.length l) := T.unit hP (by omega) (by omega)
      exact ⟨M'.cl _ _ h1 hu, res _ _ h1 hu⟩)
    exact ⟨this.2, this.1⟩
  have u1 : unitV P.orders.length i = prV i (1, zeros P.orders.length) := by
    unfold prV unitV zeros; rfl
  have s1 : ∀ a x, a < (gt P.orders i).toNat → T P (i + 1) x → ExS (T P (i + 1)) (gt P.orders i).toNat (a, x) := fun a x ha hx => ⟨ha, hx⟩
  have hz : T P (i + 1) (zeros P.orders.length) := T.zeros hP _
  have hupT : T P i (unitV P.orders.length i) := T.unit hP (Nat.le_refl _) hin
  have hmem : ∀ j, i ≤ j → j < P.orders.length → T P i (unitV P.orders.length j) := fun j a b => T.unit hP a b
  -- powers of the generator
  have hpw : ∀ k, k < (gt P.orders i).toNat → iter k (fun y => rAt P (f + 1) i y (unitV P.orders.length i)) (zeros P.orders.length) = prV i (k, zeros P.orders.length) := by
    intro k
    induction k with
    | zero => intro _; exact hz0.symm
    | succ k ih =>
      intro hk
      show rAt P (f + 1) i (iter k _ _) (unitV P.orders.length i) = _
      rw [ih (by omega), u1, prV_mul hP hi _ _ (s1 k _ (by omega) hz) (s1 1 _ (by omega) hz)]
      unfold exm
      simp only [if_neg (by omega : ¬ (gt P.orders i).toNat ≤ k + 1), E.ione, M'.el _ hz]
  have hw := pw_T (i := i) hP hin
  have nfr : ∀ x, T P (i + 1) x → npr (rAt P (f + 1) i) (unitV P.orders.length) x (i + 1) (zeros P.orders.length) f = x := fun x hx => by
    rw [(resN x (i + 1) f (by omega) (by omega)).1, L.nf x hx]
  refine ⟨G, fun x hx => ?_, ⟨hmem, fun j a b => ?_, fun j k a b c => ?_⟩⟩
  · -- normal form
    rw [npr_front M (fun j a b => hmem j a (by omega))]
    have hxi := hx.1.2 i hin
    have hd := hx.drop hP hin
    have h1 : npr (rAt P (f + 1) i) (unitV P.orders.length) x (i + 1) (zeros P.orders.length) f = x.set i 0 := by
      have h2 : npr (rAt P (f + 1) i) (unitV P.orders.length) x (i + 1) (zeros P.orders.length) f = npr (rAt P (f + 1) i) (unitV P.orders.length) (x.set i 0) (i + 1) (zeros P.orders.length) f :=
        acc_congr _ _ _ _ _ _ (fun j a b => by rw [gt_set_ne _ _ _ _ (by omega)])
      rw [h2, nfr _ hd]
    rw [hpw _ (by omega), h1]
    obtain ⟨p, hp, hpx⟩ := prV_sur hP hin hx
    have h3 := prV_mul hP hi ((gt x i).toNat, zeros P.orders.length) (0, x.set i 0) (s1 _ _ (by omega) hz) (s0 _ hd)
    rw [e0 _ hd] at h3
    rw [h3]
    unfold exm
    simp only [Nat.add_zero, if_neg (by omega : ¬ (gt P.orders i).toNat ≤ (gt x i).toNat)]
    show prV i ((gt x i).toNat, rAt P f (i + 1) (zeros P.orders.length) (x.set i 0)) = x
    rw [M'.el _ hd]
    unfold prV
    simp only [List.set_set]
    refine ext_gt (by simp) (fun k hk => ?_)
    rw [List.length_set] at hk
    rw [gt_set_if _ _ _ _ hk]
    split
    · rename_i h; subst h; omega
    · rfl
  · -- power relations
    by_cases hji : j = i
    · subst hji
      rw [show P.orders.length - (j + 1) = f by omega, nfr _ hw]
      obtain ⟨o', ho'⟩ : ∃ o', (gt P.orders j).toNat = o' + 1 := ⟨(gt P.orders j).toNat - 1, by omega⟩
      rw [ho']
      show rAt P (f + 1) j (iter o' _ _) (unitV P.orders.length j) = _
      rw [hpw o' (by omega), u1, prV_mul hP hi _ _ (s1 o' _ (by omega) hz) (s1 1 _ (by omega) hz)]
      unfold exm
      simp only [if_pos (by omega : (gt P.orders j).toNat ≤ o' + 1), E.ione, M'.el _ hz, M'.er _ hw]
      rw [show o' + 1 - (gt P.orders j).toNat = 0 by omega]
      exact e0 _ hw
    · have hu : T P (i + 1) (unitV P.orders.length j) := T.unit hP (by omega) b
      rw [(resN _ (j + 1) _ (by omega) (by omega)).1, ← L.rel.pw j (by omega) b]
      have := iter_rel (fun (y z : List Int) => T P (i + 1) z ∧ y = z) (fun y => rAt P (f + 1) i y (unitV P.orders.length j)) (fun y => rAt P f (i + 1) y (unitV P.orders.length j)) (by
        rintro y z ⟨h1, rfl⟩
        exact ⟨M'.cl _ _ h1 hu, res _ _ h1 hu⟩) (gt P.orders j).toNat _ _ ⟨L.grp.one, rfl⟩
      exact this.2
  · -- conjugate relations
    by_cases hji : j = i
    · subst hji
      have hc := cj_T (i := j) hP b c
      have hu : T P (j + 1) (unitV P.orders.length k) := T.unit hP (by omega) c
      rw [show P.orders.length - (j + 1) = f by omega, nfr _ hc]
      have h1 := prV_mul hP hi (0, unitV P.orders.length k) (1, zeros P.orders.length) (s0 _ hu) (s1 1 _ (by omega) hz)
      have h2 := prV_mul hP hi (1, zeros P.orders.length) (0, gt (gt P.conj j) (k - j - 1)) (s1 1 _ (by omega) hz) (s0 _ hc)
      rw [e0 _ hu, ← u1] at h1
      rw [e0 _ hc, ← u1] at h2
      rw [h1, h2]
      unfold exm
      simp only [Nat.zero_add, Nat.add_zero, if_neg (by omega : ¬ (gt P.orders j).toNat ≤ 1)]
      show prV j (1, rAt P f (j + 1) (rImage P f j (unitV P.orders.length k)) (zeros P.orders.length)) = prV j (1, rAt P f (j + 1) (zeros P.orders.length) (gt (gt P.conj j) (k - j - 1)))
      rw [hunit k b c, M'.er _ hc, M'.el _ hc]
    · have hu : T P (i + 1) (unitV P.orders.length j) := T.unit hP (by omega) (by omega)
      have hv : T P (i + 1) (unitV P.orders.length k) := T.unit hP (by omega) c
      have hr := resN (gt (gt P.conj j) (k - j - 1)) (j + 1) (P.orders.length - (j + 1)) (by omega) (by omega)
      rw [hr.1, res _ _ hv hu, res _ _ hu hr.2]
      exact L.rel.cj j k (by omega) b c

end

/-- the tails behind which no fault is seen -/
theorem lvl_of_R {P : Pr} (hP : Valid P) (f : Nat) : ∀ i, i + f = P.orders.length → (∀ k, i ≤ k → k < P.orders.length → RLevel P (P.orders.length - 1 - k) k) → Lvl P f i := by
  induction f with
  | zero =>
    intro i hi _
    have : i = P.orders.length := by omega
    subst this
    exact Lvl.top hP
  | succ f ih =>
    intro i hi h
    have L := ih (i + 1) (by omega) (fun k a b => h k (by omega) b)
    have R := h i (by omega) (by omega)
    rw [show P.orders.length - 1 - i = f by omega] at R
    exact L.step hP hi R
theorem lvl_of_I {P : Pr} (hP : Valid P) (f : Nat) : ∀ i, i + f = P.orders.length → (∀ k, i ≤ k → k < P.orders.length → ILevel P k) → Lvl P f i := by
  induction f with
  | zero =>
    intro i hi _
    have : i = P.orders.length := by omega
    subst this
    exact Lvl.top hP
  | succ f ih =>
    intro i hi h
    have L := ih (i + 1) (by omega) (fun k a b => h k (by omega) b)
    exact L.step hP hi ((L.iff hP hi).1 (h i (by omega) (by omega)))

theorem all_iff {P : Pr} (hP : Valid P) : IAll P ↔ RAll P := by
  constructor
  · intro h k hk
    have L := lvl_of_I hP (P.orders.length - 1 - k) (k + 1) (by omega) (fun l _ b => h l b)
    exact (L.iff hP (by omega)).1 (h k hk)
  · intro h k hk
    have L := lvl_of_R hP (P.orders.length - 1 - k) (k + 1) (by omega) (fun l _ b => h l b)
    exact (L.iff hP (by omega)).2 (h k hk)

/-- both sides call the same presentations consistent -/
theorem icons_eq (P : Pr) : iconsB P = rconsB P := by
  unfold iconsB rconsB
  exact decide_eq_decide.2 (and_congr_right (fun hP => all_iff hP))

/-- a valid and consistent presentation -/
structure Grp (P : Pr) : Prop where
  v : Valid P
  all : RAll P

theorem Grp.tail {P : Pr} (G : Grp P) {f i : Nat} (hi : i + f = P.orders.length) : Lvl P f i := lvl_of_R G.v f i hi (fun k _ b => G.all k b)
theorem Grp.lvl {P : Pr} (G : Grp P) : Lvl P P.orders.length 0 := G.tail (by omega)

theorem grp_of_r {P : Pr} (h : rconsB P = true) : Grp P := by
  unfold rconsB at h
  have h2 := @of_decide_eq_true _ (_) h
  exact ⟨h2.1, h2.2⟩

theorem T_zero {P : Pr} {x : List Int} : T P 0 x ↔ Vec P.orders x := ⟨fun h => h.1, fun h => ⟨h, fun k hk => by omega⟩⟩

section
variable {P : Pr} (G : Grp P)
include G

/-- the group of a consistent presentation -/
theorem Grp.grp : GrpOn (Vec P.orders) (rMul P) (zeros P.orders.length) := by
  have h := G.lvl.grp
  have e : T P 0 = Vec P.orders := by funext x; exact propext T_zero
  rw [e] at h
  exact h
theorem Grp.tv_eq {E F : List Int} (hE : Vec P.orders E) (hF : Vec P.orders F) : tv P E F = rMul P E F := G.lvl.tv_eq G.v (by omega) (T_zero.2 hE) (T_zero.2 hF)
theorem Grp.nf {x : List Int} (hx : Vec P.orders x) : npr (rMul P) (unitV P.orders.length) x 0 (zeros P.orders.length) P.orders.length = x := G.lvl.nf x (T_zero.2 hx)
theorem Grp.iInv_mul {a : List Int} (ha : Vec P.orders a) : rMul P a (iInv P a) = zeros P.orders.length := (G.lvl.iInv_eq G.v (by omega) (T_zero.2 ha)).2
theorem Grp.rel : Holds P (Vec P.orders) (rMul P) (zeros P.orders.length) (unitV P.orders.length) 0 := by
  have h := G.lvl.rel
  have e : T P 0 = Vec P.orders := by funext x; exact propext T_zero
  rw [e] at h
  exact h
theorem Grp.iPow_eq {a : List Int} (ha : Vec P.orders a) (k : Int) : iPow P a k = iter k.toNat (fun y => rMul P y a) (zeros P.orders.length) := G.lvl.iPow_eq G.v (by omega) (T_zero.2 ha) k
end

end Go.Proofs.Ytdfjgpioaomceaa
