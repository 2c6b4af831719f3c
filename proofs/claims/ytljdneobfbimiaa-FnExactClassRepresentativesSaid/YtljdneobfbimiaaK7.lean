/-
  Plain: a level without a fault makes the tail before it a group; so the two sides' words 'consistent' agree, and in a consistent presentation the two products.
  Plain: the two sides' inverses and conjugates in a consistent presentation.
  Plain: the numbers of elements: num and elAt undo one another.
  Lists of lists that a call builds by append, none of whose blocks is in A (a map that is written beside them).
  The library's sort at [][]int64, laid from the shelf.
  cmp.Compare at int64 and slices.Compare at []int64.
  The order of slices.Compare is a total order on lists of integers. Plain.
  A row that the call has built, sorted by the library: any elements of one cell. (After the library's Sort/OwnSortedInts, at a general reading.)
  The map of numbers seen, of impl.classOf: a set of integers.
  Finding an element: slices.BinarySearchFunc with slices.Compare, slices.IndexFunc, impl.classNumber.
  Plain: a search in a sorted row finds just its members.
  Rows of bools of the call's own; a region that ends in a store.
  The reference's classes: spec.l18Code, l18Marks, l18Classes, ClassSizes.
  The orbit that impl.classOf collects. Plain.
  impl.classOf: the class of an element, sorted.
  impl.classesOf, impl.ClassSizes.
  Plain: in a consistent presentation the program's classes are the reference's: what the program collects of a member is its conjugacy class, and both count the same sizes.
  The rows' arguments: how a presentation that came in, or a list, reads in this claim's words.
-/
import Derived.Test.YtljdneobfbimiaaK6
import Derived.Test.YtljdneobfbimiaaK3
import Derived.Shelf.SlSortCmp.NoneTotal
import Derived.Sort.OwnSortedInts
import Derived.Maps.OwnSet
import Derived.Test.YtljdneobfbimiaaK5
import Derived.Test.YtljdneobfbimiaaK4
import Derived.Carry
import Derived.Deep.Slices
import Derived.ChangeSame
import Derived.ChangeSlices
import Derived.JoinedOf
import Derived.JoinedAt
import Derived.JoinedCond
import Derived.ReadAgain
/- Plain: a level without a fault makes the tail before it a group; so the two sides' words 'consistent' agree, and in a consistent presentation the two products. -/
namespace Go.Proofs.Ytljdneobfbimiaa

section
variable {P : Pr} {f i : Nat}

/-- a pair as a vector -/
def prV (i : Nat) (p : Nat × List Int) : List Int := p.2.set i (p.1 : Int)

theorem prV_T (hP : Valid P) (hi : i < P.orders.length) {p : Nat × List Int} (hp : ExS (T P (i + 1)) (gt P.orders i).toNat p) : T P i (prV i p) := by
  have ho := hP.ord7 i hi
  have h1 := hp.1
  exact hp.2.put ⟨by omega, fun _ => by omega⟩

theorem prV_sur (hP : Valid P) (hi : i < P.orders.length) {x : List Int} (hx : T P i x) : ∃ p, ExS (T P (i + 1)) (gt P.orders i).toNat p ∧ prV i p = x := by
  have ho := hP.ord7 i hi
  have hxi := hx.1.2 i hi
  refine ⟨((gt x i).toNat, x.set i 0), ⟨by show (gt x i).toNat < _; omega, hx.drop hP hi⟩, ?_⟩
  unfold prV
  simp only [List.set_set]
  refine ext_gt (by simp) (fun k hk => ?_)
  rw [List.length_set] at hk
  rw [gt_set_if _ _ _ _ hk]
  split
  · rename_i h; subst h; omega
  · rfl

theorem set_zero_of {x : List Int} (h : T P (i + 1) x) : x.set i 0 = x := by
  refine ext_gt (by simp) (fun k hk => ?_)
  rw [List.length_set] at hk
  rw [gt_set_if _ _ _ _ hk]
  split
  · rename_i e; subst e; exact (h.2 i (by omega)).symm
  · rfl

theorem prV_mul (hP : Valid P) (hi : i + (f + 1) = P.orders.length) (p q : Nat × List Int) (hp : ExS (T P (i + 1)) (gt P.orders i).toNat p) (hq : ExS (T P (i + 1)) (gt P.orders i).toNat q) :
    rAt P (f + 1) i (prV i p) (prV i q) = prV i (exm (rAt P f (i + 1)) (rImage P f i) (gt P.powers i) (gt P.orders i).toNat p q) := by
  obtain ⟨a, x⟩ := p
  obtain ⟨b, y⟩ := q
  obtain ⟨ha, hx⟩ := hp
  obtain ⟨hb, hy⟩ := hq
  simp only at ha hb hx hy
  have ho := hP.ord7 i (by omega)
  have ga : gt (prV i (a, x)) i = (a : Int) := gt_set_eq _ _ _ (by show i < x.length; rw [hx.1.1]; omega)
  have gb : gt (prV i (b, y)) i = (b : Int) := gt_set_eq _ _ _ (by show i < y.length; rw [hy.1.1]; omega)
  have sa : (prV i (a, x)).set i 0 = x := by unfold prV; rw [List.set_set]; exact set_zero_of hx
  have sb : (prV i (b, y)).set i 0 = y := by unfold prV; rw [List.set_set]; exact set_zero_of hy
  simp only [rAt, ga, gb, sa, sb]
  unfold exm
  simp only
  have him : (fun l => rImgTo (rAt P f (i + 1)) (gt P.conj i) i l (zeros P.orders.length) f) = rImage P f i := rfl
  rw [him, show ((b : Int)).toNat = b by omega]
  by_cases hc : (gt P.orders i).toNat ≤ a + b
  · rw [if_pos (by omega), if_pos hc]
    unfold prV
    simp only
    congr 1
    omega
  · rw [if_neg (by omega), if_neg hc]
    unfold prV
    simp only
    congr 1

/-- what a faultless level gives -/
theorem Lvl.ext (hP : Valid P) (hi : i + (f + 1) = P.orders.length) (L : Lvl P f (i + 1)) (R : RLevel P f i) :
    ExtOk (T P (i + 1)) (rAt P f (i + 1)) (zeros P.orders.length) (rImage P f i) (gt P.powers i) (gt P.orders i).toNat ∧
      ∀ j, i < j → j < P.orders.length → rImage P f i (unitV P.orders.length j) = gt (gt P.conj i) (j - i - 1) := by
  have M := L.grp.toMonOn
  have ho := hP.ord7 i (by omega)
  have hf : P.orders.length - (i + 1) = f := by omega
  have hmem : ∀ j, i + 1 ≤ j → j < P.orders.length → T P (i + 1) (gt (gt P.conj i) (j - i - 1)) := fun j a b => cj_T hP (by omega) b
  have hImg : ∀ x, rImage P f i x = npr (rAt P f (i + 1)) (fun j => gt (gt P.conj i) (j - i - 1)) x (i + 1) (zeros P.orders.length) f := fun x => by
    unfold rImage npr; rw [rImgTo_acc]
  have hImgAt : ∀ (j : Nat) (x : List Int), i < j → j < P.orders.length → ZeroTo j x → rImage P f i x = npr (rAt P f (i + 1)) (fun j => gt (gt P.conj i) (j - i - 1)) x (j + 1) (zeros P.orders.length) (P.orders.length - (j + 1)) := fun j x a b hz => by
    rw [hImg]
    unfold npr
    rw [show f = (j - i) + (P.orders.length - (j + 1)) by omega, acc_split, acc_zero _ _ _ _ (j - i) (fun k _ c => hz k (by omega)), show i + 1 + (j - i) = j + 1 by omega]
  have H : Holds P (T P (i + 1)) (rAt P f (i + 1)) (zeros P.orders.length) (fun j => gt (gt P.conj i) (j - i - 1)) (i + 1) := by
    refine ⟨hmem, fun j a b => ?_, fun j k a b c => ?_⟩
    · have h := R.c1 j (by omega) b
      unfold RCond1 at h
      rw [L.rRep_eq (hmem j a b), hImgAt j _ (by omega) b (hP.pv j b).2] at h
      exact h
    · have h := R.c2 j k (by omega) b c
      unfold RCond2 at h
      rw [hImgAt j _ (by omega) (by omega) ((hP.cv j (by omega)).2 (k - j - 1) (by omega)).2] at h
      exact h
  have hom : ∀ A B, Vec P.orders A → Vec P.orders B → rImage P f i (rAt P f (i + 1) A B) = rAt P f (i + 1) (rImage P f i A) (rImage P f i B) := fun A B hA hB => by
    rw [hImg, hImg, hImg]
    exact vd_at hP M f (i + 1) (by omega) H A B hA hB
  have hunit : ∀ j, i < j → j < P.orders.length → rImage P f i (unitV P.orders.length j) = gt (gt P.conj i) (j - i - 1) := fun j a b => by
    rw [hImg]
    unfold npr
    rw [show f = (j - (i + 1)) + ((P.orders.length - (j + 1)) + 1) by omega, acc_split, acc_zero _ _ _ _ (j - (i + 1)) (fun k _ c => by rw [gt_unit _ _ _ (by omega), if_neg (by omega)]), acc_front, show i + 1 + (j - (i + 1)) = j by omega,
      acc_zero _ _ (j + 1) _ _ (fun k c d => by rw [gt_unit _ _ _ (by omega), if_neg (by omega)]), gt_unit _ _ _ b, if_pos rfl]
    show rAt P _ (i + 1) (zeros P.orders.length) _ = _
    rw [show j - (i + 1) + (P.orders.length - (j + 1) + 1) = f by omega]
    exact M.el _ (hmem j (by omega) b)
  refine ⟨?_, hunit⟩
  have hw := pw_T (i := i) hP (by omega)
  have ihom : ∀ (k : Nat) (x y : List Int), T P (i + 1) x → T P (i + 1) y → iter k (rImage P f i) (rAt P f (i + 1) x y) = rAt P f (i + 1) (iter k (rImage P f i) x) (iter k (rImage P f i) y) := by
    intro k x y hx hy
    have := (iter_rel (fun (u : List Int) (v : List Int × List Int) => T P (i + 1) v.1 ∧ T P (i + 1) v.2 ∧ u = rAt P f (i + 1) v.1 v.2) (rImage P f i) (fun v => (rImage P f i v.1, rImage P f i v.2)) (by
      rintro u ⟨v1, v2⟩ ⟨h1, h2, rfl⟩
      exact ⟨rImage_T hP hi _, rImage_T hP hi _, hom _ _ h1.1 h2.1⟩) k (rAt P f (i + 1) x y) (x, y) ⟨hx, hy, rfl⟩).2.2
    rw [this]
    have e : ∀ k, iter k (fun v : List Int × List Int => (rImage P f i v.1, rImage P f i v.2)) (x, y) = (iter k (rImage P f i) x, iter k (rImage P f i) y) := by
      intro k
      induction k with
      | zero => rfl
      | succ k ih => show (fun v : List Int × List Int => (rImage P f i v.1, rImage P f i v.2)) (iter k _ (x, y)) = _; rw [ih]; rfl
    rw [e]
  have icl : ∀ (k : Nat) (x : List Int), T P (i + 1) x → T P (i + 1) (iter k (rImage P f i) x) := fun k x hx => iter_inv (T P (i + 1)) _ (fun y _ => rImage_T hP hi y) k x hx
  refine ⟨by omega, L.grp, fun x _ => rImage_T hP hi x, fun x y hx hy => hom x y hx.1 hy.1, hw, R.c3, ?_⟩
  intro x hx
  have hone : rImage P f i (zeros P.orders.length) = zeros P.orders.length := by
    rw [hImg]; exact acc_zero _ _ _ _ _ (fun j _ _ => gt_replicate _ _)
  have hione : ∀ k, iter k (rImage P f i) (zeros P.orders.length) = zeros P.orders.length := by
    intro k
    induction k with
    | zero => rfl
    | succ k ih => show rImage P f i (iter k _ _) = _; rw [ih, hone]
  have key : (fun y => T P (i + 1) y ∧ rAt P f (i + 1) (gt P.powers i) (iter (gt P.orders i).toNat (rImage P f i) y) = rAt P f (i + 1) y (gt P.powers i)) (npr (rAt P f (i + 1)) (unitV P.orders.length) x (i + 1) (zeros P.orders.length) f) := by
    unfold npr
    refine acc_inv (fun y => T P (i + 1) y ∧ rAt P f (i + 1) (gt P.powers i) (iter (gt P.orders i).toNat (rImage P f i) y) = rAt P f (i + 1) y (gt P.powers i)) _ _ _ _ _ ⟨L.grp.one, by rw [hione, M.er _ hw, M.el _ hw]⟩ (fun y j hy a b _ => ?_)
    obtain ⟨h1, h2⟩ := hy
    have hu : T P (i + 1) (unitV P.orders.length j) := T.unit hP a (by omega)
    have h4 := R.c4 j (by omega) (by omega)
    unfold RCond4 at h4
    refine ⟨M.cl _ _ h1 hu, ?_⟩
    rw [ihom _ _ _ h1 hu, ← M.ass _ _ _ hw (icl _ _ h1) (icl _ _ hu), h2, M.ass _ _ _ h1 hw (icl _ _ hu)]
    have h5 : rAt P f (i + 1) (gt P.powers i) (iter (gt P.orders i).toNat (rImage P f i) (unitV P.orders.length j)) = rAt P f (i + 1) (unitV P.orders.length j) (gt P.powers i) := h4
    rw [h5, M.ass _ _ _ h1 hu hw]
  rw [L.nf x hx] at key
  exact key.2

theorem Lvl.step (hP : Valid P) (hi : i + (f + 1) = P.orders.length) (L : Lvl P f (i + 1)) (R : RLevel P f i) : Lvl P (f + 1) i := by
  obtain ⟨E, hunit⟩ := L.ext hP hi R
  have hin : i < P.orders.length := by omega
  have ho := hP.ord7 i hin
  have M' := L.grp.toMonOn
  have hz0 : prV i (0, zeros P.orders.length) = zeros P.orders.length := set_zero_of (P := P) (T.zeros hP (i + 1))
  have G : GrpOn (T P i) (rAt P (f + 1) i) (zeros P.orders.length) :=
    E.group.carry (prV i) (fun p hp => prV_T hP hin hp) (fun y hy => prV_sur hP hin hy) hz0 (fun p q hp hq => prV_mul hP hi p q hp hq)
  have M := G.toMonOn
  have e0 : ∀ x, T P (i + 1) x → prV i (0, x) = x := fun x hx => set_zero_of hx
  have s0 : ∀ x, T P (i + 1) x → ExS (T P (i + 1)) (gt P.orders i).toNat (0, x) := fun x hx => ⟨by show 0 < _; omega, hx⟩
  -- the product restricted
  have res : ∀ x y, T P (i + 1) x → T P (i + 1) y → rAt P (f + 1) i x y = rAt P f (i + 1) x y := fun x y hx hy => by
    have h := prV_mul hP hi (0, x) (0, y) (s0 x hx) (s0 y hy)
    rw [e0 x hx, e0 y hy] at h
    rw [h]
    unfold exm
    simp only [Nat.add_zero, if_neg (by omega : ¬ (gt P.orders i).toNat ≤ 0)]
    exact e0 _ (M'.cl _ _ hx hy)
  have resN : ∀ (x : List Int) (j k : Nat), i + 1 ≤ j → j + k = P.orders.length → npr (rAt P (f + 1) i) (unitV P.orders.length) x j (zeros P.orders.length) k = npr (rAt P f (i + 1)) (unitV P.orders.length) x j (zeros P.orders.length) k ∧
      T P (i + 1) (npr (rAt P f (i + 1)) (unitV P.orders.length) x j (zeros P.orders.length) k) := fun x j k hj hk => by
    have := acc_rel (fun (y z : List Int) => T P (i + 1) z ∧ y = z) (fun y j => rAt P (f + 1) i y (unitV P.orders.length j)) (fun y j => rAt P f (i + 1) y (unitV P.orders.length j)) x j (zeros P.orders.length) (zeros P.orders.length) k ⟨L.grp.one, rfl⟩ (by
      rintro y z l ⟨h1, rfl⟩ a b _
      have hu : T P (i + 1) (unitV P.orders.length l) := T.unit hP (by omega) (by omega)
      exact ⟨M'.cl _ _ h1 hu, res _ _ h1 hu⟩)
    exact ⟨this.2, this.1⟩
  have u1 : unitV P.orders.length i = prV i (1, zeros P.orders.length) := by
    unfold prV unitV zeros; rfl
  have s1 : ∀ a x, a < (gt P.orders i).toNat → T P (i + 1) x → ExS (T P (i + 1)) (gt P.orders i).toNat (a, x) := fun a x ha hx => ⟨ha, hx⟩
  have hz : T P (i + 1) (zeros P.orders.length) := T.zeros hP _
  have hupT : T P i (unitV P.orders.length i) := T.unit hP (Nat.le_refl _) hin
  have hmem : ∀ j, i ≤ j → j < P.orders.length → T P i (unitV P.orders.length j) := fun j a b => T.unit hP a b
  -- powers of the generator
  have hpw : ∀ k, k < (gt P.orders i).toNat → iter k (fun y => rAt P (f + 1) i y (unitV P.orders.length i)) (zeros P.orders.length) = prV i (k, zeros P.orders.length) := by
    intro k
    induction k with
    | zero => intro _; exact hz0.symm
    | succ k ih =>
      intro hk
      show rAt P (f + 1) i (iter k _ _) (unitV P.orders.length i) = _
      rw [ih (by omega), u1, prV_mul hP hi _ _ (s1 k _ (by omega) hz) (s1 1 _ (by omega) hz)]
      unfold exm
      simp only [if_neg (by omega : ¬ (gt P.orders i).toNat ≤ k + 1), E.ione, M'.el _ hz]
  have hw := pw_T (i := i) hP hin
  have nfr : ∀ x, T P (i + 1) x → npr (rAt P (f + 1) i) (unitV P.orders.length) x (i + 1) (zeros P.orders.length) f = x := fun x hx => by
    rw [(resN x (i + 1) f (by omega) (by omega)).1, L.nf x hx]
  refine ⟨G, fun x hx => ?_, ⟨hmem, fun j a b => ?_, fun j k a b c => ?_⟩⟩
  · -- normal form
    rw [npr_front M (fun j a b => hmem j a (by omega))]
    have hxi := hx.1.2 i hin
    have hd := hx.drop hP hin
    have h1 : npr (rAt P (f + 1) i) (unitV P.orders.length) x (i + 1) (zeros P.orders.length) f = x.set i 0 := by
      have h2 : npr (rAt P (f + 1) i) (unitV P.orders.length) x (i + 1) (zeros P.orders.length) f = npr (rAt P (f + 1) i) (unitV P.orders.length) (x.set i 0) (i + 1) (zeros P.orders.length) f :=
        acc_congr _ _ _ _ _ _ (fun j a b => by rw [gt_set_ne _ _ _ _ (by omega)])
      rw [h2, nfr _ hd]
    rw [hpw _ (by omega), h1]
    obtain ⟨p, hp, hpx⟩ := prV_sur hP hin hx
    have h3 := prV_mul hP hi ((gt x i).toNat, zeros P.orders.length) (0, x.set i 0) (s1 _ _ (by omega) hz) (s0 _ hd)
    rw [e0 _ hd] at h3
    rw [h3]
    unfold exm
    simp only [Nat.add_zero, if_neg (by omega : ¬ (gt P.orders i).toNat ≤ (gt x i).toNat)]
    show prV i ((gt x i).toNat, rAt P f (i + 1) (zeros P.orders.length) (x.set i 0)) = x
    rw [M'.el _ hd]
    unfold prV
    simp only [List.set_set]
    refine ext_gt (by simp) (fun k hk => ?_)
    rw [List.length_set] at hk
    rw [gt_set_if _ _ _ _ hk]
    split
    · rename_i h; subst h; omega
    · rfl
  · -- power relations
    by_cases hji : j = i
    · subst hji
      rw [show P.orders.length - (j + 1) = f by omega, nfr _ hw]
      obtain ⟨o', ho'⟩ : ∃ o', (gt P.orders j).toNat = o' + 1 := ⟨(gt P.orders j).toNat - 1, by omega⟩
      rw [ho']
      show rAt P (f + 1) j (iter o' _ _) (unitV P.orders.length j) = _
      rw [hpw o' (by omega), u1, prV_mul hP hi _ _ (s1 o' _ (by omega) hz) (s1 1 _ (by omega) hz)]
      unfold exm
      simp only [if_pos (by omega : (gt P.orders j).toNat ≤ o' + 1), E.ione, M'.el _ hz, M'.er _ hw]
      rw [show o' + 1 - (gt P.orders j).toNat = 0 by omega]
      exact e0 _ hw
    · have hu : T P (i + 1) (unitV P.orders.length j) := T.unit hP (by omega) b
      rw [(resN _ (j + 1) _ (by omega) (by omega)).1, ← L.rel.pw j (by omega) b]
      have := iter_rel (fun (y z : List Int) => T P (i + 1) z ∧ y = z) (fun y => rAt P (f + 1) i y (unitV P.orders.length j)) (fun y => rAt P f (i + 1) y (unitV P.orders.length j)) (by
        rintro y z ⟨h1, rfl⟩
        exact ⟨M'.cl _ _ h1 hu, res _ _ h1 hu⟩) (gt P.orders j).toNat _ _ ⟨L.grp.one, rfl⟩
      exact this.2
  · -- conjugate relations
    by_cases hji : j = i
    · subst hji
      have hc := cj_T (i := j) hP b c
      have hu : T P (j + 1) (unitV P.orders.length k) := T.unit hP (by omega) c
      rw [show P.orders.length - (j + 1) = f by omega, nfr _ hc]
      have h1 := prV_mul hP hi (0, unitV P.orders.length k) (1, zeros P.orders.length) (s0 _ hu) (s1 1 _ (by omega) hz)
      have h2 := prV_mul hP hi (1, zeros P.orders.length) (0, gt (gt P.conj j) (k - j - 1)) (s1 1 _ (by omega) hz) (s0 _ hc)
      rw [e0 _ hu, ← u1] at h1
      rw [e0 _ hc, ← u1] at h2
      rw [h1, h2]
      unfold exm
      simp only [Nat.zero_add, Nat.add_zero, if_neg (by omega : ¬ (gt P.orders j).toNat ≤ 1)]
      show prV j (1, rAt P f (j + 1) (rImage P f j (unitV P.orders.length k)) (zeros P.orders.length)) = prV j (1, rAt P f (j + 1) (zeros P.orders.length) (gt (gt P.conj j) (k - j - 1)))
      rw [hunit k b c, M'.er _ hc, M'.el _ hc]
    · have hu : T P (i + 1) (unitV P.orders.length j) := T.unit hP (by omega) (by omega)
      have hv : T P (i + 1) (unitV P.orders.length k) := T.unit hP (by omega) c
      have hr := resN (gt (gt P.conj j) (k - j - 1)) (j + 1) (P.orders.length - (j + 1)) (by omega) (by omega)
      rw [hr.1, res _ _ hv hu, res _ _ hu hr.2]
      exact L.rel.cj j k (by omega) b c

end

/-- the tails behind which no fault is seen -/
theorem lvl_of_R {P : Pr} (hP : Valid P) (f : Nat) : ∀ i, i + f = P.orders.length → (∀ k, i ≤ k → k < P.orders.length → RLevel P (P.orders.length - 1 - k) k) → Lvl P f i := by
  induction f with
  | zero =>
    intro i hi _
    have : i = P.orders.length := by omega
    subst this
    exact Lvl.top hP
  | succ f ih =>
    intro i hi h
    have L := ih (i + 1) (by omega) (fun k a b => h k (by omega) b)
    have R := h i (by omega) (by omega)
    rw [show P.orders.length - 1 - i = f by omega] at R
    exact L.step hP hi R
theorem lvl_of_I {P : Pr} (hP : Valid P) (f : Nat) : ∀ i, i + f = P.orders.length → (∀ k, i ≤ k → k < P.orders.length → ILevel P k) → Lvl P f i := by
  induction f with
  | zero =>
    intro i hi _
    have : i = P.orders.length := by omega
    subst this
    exact Lvl.top hP
  | succ f ih =>
    intro i hi h
    have L := ih (i + 1) (by omega) (fun k a b => h k (by omega) b)
    exact L.step hP hi ((L.iff hP hi).1 (h i (by omega) (by omega)))

theorem all_iff {P : Pr} (hP : Valid P) : IAll P ↔ RAll P := by
  constructor
  · intro h k hk
    have L := lvl_of_I hP (P.orders.length - 1 - k) (k + 1) (by omega) (fun l _ b => h l b)
    exact (L.iff hP (by omega)).1 (h k hk)
  · intro h k hk
    have L := lvl_of_R hP (P.orders.length - 1 - k) (k + 1) (by omega) (fun l _ b => h l b)
    exact (L.iff hP (by omega)).2 (h k hk)

/-- both sides call the same presentations consistent -/
theorem icons_eq (P : Pr) : iconsB P = rconsB P := by
  unfold iconsB rconsB
  exact decide_eq_decide.2 (and_congr_right (fun hP => all_iff hP))

/-- a valid and consistent presentation -/
structure Grp (P : Pr) : Prop where
  v : Valid P
  all : RAll P

theorem Grp.tail {P : Pr} (G : Grp P) {f i : Nat} (hi : i + f = P.orders.length) : Lvl P f i := lvl_of_R G.v f i hi (fun k _ b => G.all k b)
theorem Grp.lvl {P : Pr} (G : Grp P) : Lvl P P.orders.length 0 := G.tail (by omega)

theorem grp_of_r {P : Pr} (h : rconsB P = true) : Grp P := by
  unfold rconsB at h
  have h2 := @of_decide_eq_true _ (_) h
  exact ⟨h2.1, h2.2⟩

theorem T_zero {P : Pr} {x : List Int} : T P 0 x ↔ Vec P.orders x := ⟨fun h => h.1, fun h => ⟨h, fun k hk => by omega⟩⟩

section
variable {P : Pr} (G : Grp P)
include G

/-- the group of a consistent presentation -/
theorem Grp.grp : GrpOn (Vec P.orders) (rMul P) (zeros P.orders.length) := by
  have h := G.lvl.grp
  have e : T P 0 = Vec P.orders := by funext x; exact propext T_zero
  rw [e] at h
  exact h
theorem Grp.tv_eq {E F : List Int} (hE : Vec P.orders E) (hF : Vec P.orders F) : tv P E F = rMul P E F := G.lvl.tv_eq G.v (by omega) (T_zero.2 hE) (T_zero.2 hF)
theorem Grp.nf {x : List Int} (hx : Vec P.orders x) : npr (rMul P) (unitV P.orders.length) x 0 (zeros P.orders.length) P.orders.length = x := G.lvl.nf x (T_zero.2 hx)
theorem Grp.iInv_mul {a : List Int} (ha : Vec P.orders a) : rMul P a (iInv P a) = zeros P.orders.length := (G.lvl.iInv_eq G.v (by omega) (T_zero.2 ha)).2
theorem Grp.rel : Holds P (Vec P.orders) (rMul P) (zeros P.orders.length) (unitV P.orders.length) 0 := by
  have h := G.lvl.rel
  have e : T P 0 = Vec P.orders := by funext x; exact propext T_zero
  rw [e] at h
  exact h
theorem Grp.iPow_eq {a : List Int} (ha : Vec P.orders a) (k : Int) : iPow P a k = iter k.toNat (fun y => rMul P y a) (zeros P.orders.length) := G.lvl.iPow_eq G.v (by omega) (T_zero.2 ha) k
end

end Go.Proofs.Ytljdneobfbimiaa

/- Plain: the two sides' inverses and conjugates in a consistent presentation. -/
namespace Go.Proofs.Ytljdneobfbimiaa

section
variable {P : Pr} {f i : Nat}

theorem rImage_zeros : rImage P f i (zeros P.orders.length) = zeros P.orders.length := by
  unfold rImage
  rw [rImgTo_acc]
  exact acc_zero _ _ _ _ _ (fun j _ _ => gt_replicate _ _)

theorem rAt_res (hP : Valid P) (hi : i + (f + 1) = P.orders.length) {x y : List Int} (hx : T P (i + 1) x) (hy : T P (i + 1) y) : rAt P (f + 1) i x y = rAt P f (i + 1) x y := by
  have ho := hP.ord7 i (by omega)
  have h := prV_mul hP hi (0, x) (0, y) ⟨by show 0 < _; omega, hx⟩ ⟨by show 0 < _; omega, hy⟩
  have e0 : ∀ x, T P (i + 1) x → prV i (0, x) = x := fun x hx => set_zero_of hx
  rw [e0 x hx, e0 y hy] at h
  rw [h]
  unfold exm
  simp only [Nat.add_zero, if_neg (by omega : ¬ (gt P.orders i).toNat ≤ 0)]
  exact e0 _ (rAt_T hP f (i + 1) x y (by omega) hx.1 hy.1)

/-- powers of a generator -/
theorem gen_pow (hP : Valid P) (hi : i + (f + 1) = P.orders.length) (L' : Lvl P f (i + 1)) (k : Nat) (hk : k < (gt P.orders i).toNat) :
    iter k (fun y => rAt P (f + 1) i y (unitV P.orders.length i)) (zeros P.orders.length) = prV i (k, zeros P.orders.length) := by
  have hz : T P (i + 1) (zeros P.orders.length) := T.zeros hP _
  induction k with
  | zero => exact (set_zero_of hz).symm
  | succ k ih =>
    show rAt P (f + 1) i (iter k _ _) (unitV P.orders.length i) = _
    have u1 : unitV P.orders.length i = prV i (1, zeros P.orders.length) := by unfold prV unitV zeros; rfl
    rw [ih (by omega), u1, prV_mul hP hi _ _ ⟨by show k < _; omega, hz⟩ ⟨by show 1 < _; omega, hz⟩]
    unfold exm
    simp only [if_neg (by omega : ¬ (gt P.orders i).toNat ≤ k + 1)]
    show prV i (k + 1, rAt P f (i + 1) (rImage P f i (zeros P.orders.length)) (zeros P.orders.length)) = _
    rw [rImage_zeros, L'.grp.el _ hz]

/-- a vector is the generator's power times what stands behind it -/
theorem vec_head (hP : Valid P) (hi : i + (f + 1) = P.orders.length) (L' : Lvl P f (i + 1)) {x : List Int} (hx : T P i x) :
    rAt P (f + 1) i (prV i ((gt x i).toNat, zeros P.orders.length)) (x.set i 0) = x := by
  have hin : i < P.orders.length := by omega
  have hxi := hx.1.2 i hin
  have hd := hx.drop hP hin
  have hz : T P (i + 1) (zeros P.orders.length) := T.zeros hP _
  have h3 := prV_mul hP hi ((gt x i).toNat, zeros P.orders.length) (0, x.set i 0) ⟨by show (gt x i).toNat < _; omega, hz⟩ ⟨by show 0 < _; omega, hd⟩
  have e0 : prV i (0, x.set i 0) = x.set i 0 := set_zero_of hd
  rw [e0] at h3
  rw [h3]
  unfold exm
  simp only [Nat.add_zero, if_neg (by omega : ¬ (gt P.orders i).toNat ≤ (gt x i).toNat)]
  show prV i ((gt x i).toNat, rAt P f (i + 1) (zeros P.orders.length) (x.set i 0)) = x
  rw [L'.grp.el _ hd]
  unfold prV
  simp only [List.set_set]
  refine ext_gt (by simp) (fun k hk => ?_)
  rw [List.length_set] at hk
  rw [gt_set_if _ _ _ _ hk]
  split
  · rename_i h; subst h; omega
  · rfl

theorem rFrom_inv (G : Grp P) (f : Nat) : ∀ (i : Nat) (x : List Int), i + f = P.orders.length → T P i x → T P i (rFrom P f i x) ∧ rAt P f i x (rFrom P f i x) = zeros P.orders.length := by
  have hP := G.v
  induction f with
  | zero => intro i x _ _; exact ⟨T.zeros hP i, rfl⟩
  | succ f ih =>
    intro i x hi hx
    have hin : i < P.orders.length := by omega
    have L := G.tail hi
    have L' := G.tail (f := f) (i := i + 1) (by omega)
    have ho := hP.ord7 i hin
    have hxi := hx.1.2 i hin
    have hd := hx.drop hP hin
    obtain ⟨h1, h2⟩ := ih (i + 1) _ (by omega) hd
    have h1i : T P i (rFrom P f (i + 1) (x.set i 0)) := h1.down (by omega)
    simp only [rFrom]
    by_cases h0 : gt x i = 0
    · rw [if_pos h0]
      have ex : x.set i 0 = x := set_zero_of (hx.up h0)
      rw [ex] at h1i h2 ⊢
      rw [ex] at h1
      exact ⟨h1i, by rw [rAt_res hP hi (hx.up h0) h1]; exact h2⟩
    · rw [if_neg h0]
      have hw := pw_T (i := i) hP hin
      obtain ⟨h3, h4⟩ := ih (i + 1) _ (by omega) hw
      have hg : T P i (prV i ((gt P.orders i - gt x i).toNat, zeros P.orders.length)) := prV_T hP hin ⟨by show (gt P.orders i - gt x i).toNat < _; omega, T.zeros hP _⟩
      have hg2 : T P i (prV i ((gt x i).toNat, zeros P.orders.length)) := prV_T hP hin ⟨by show (gt x i).toNat < _; omega, T.zeros hP _⟩
      have eg : (zeros P.orders.length).set i (gt P.orders i - gt x i) = prV i ((gt P.orders i - gt x i).toNat, zeros P.orders.length) := by
        unfold prV
        simp only
        rw [show (((gt P.orders i - gt x i).toNat : Nat) : Int) = gt P.orders i - gt x i by omega]
      rw [eg]
      have M := L.grp.toMonOn
      have h3i : T P i (rFrom P f (i + 1) (gt P.powers i)) := h3.down (by omega)
      have hdi : T P i (x.set i 0) := hd.down (by omega)
      have hwi : T P i (gt P.powers i) := hw.down (by omega)
      refine ⟨M.cl _ _ (M.cl _ _ h1i hg) h3i, ?_⟩
      have hu := T.unit hP (Nat.le_refl i) hin
      have e1 : rAt P (f + 1) i (x.set i 0) (rFrom P f (i + 1) (x.set i 0)) = zeros P.orders.length := by rw [rAt_res hP hi hd h1]; exact h2
      have e2 : rAt P (f + 1) i (gt P.powers i) (rFrom P f (i + 1) (gt P.powers i)) = zeros P.orders.length := by rw [rAt_res hP hi hw h3]; exact h4
      have e3 : rAt P (f + 1) i (prV i ((gt x i).toNat, zeros P.orders.length)) (prV i ((gt P.orders i - gt x i).toNat, zeros P.orders.length)) = gt P.powers i := by
        rw [← gen_pow hP hi L' _ (by omega), ← gen_pow hP hi L' _ (by omega), ← M.pow_add hu, show (gt x i).toNat + (gt P.orders i - gt x i).toNat = (gt P.orders i).toNat by omega, L.rel.pw i (Nat.le_refl _) hin]
        rw [show P.orders.length - (i + 1) = f by omega]
        have := L'.nf _ hw
        have hr := (acc_rel (fun (y z : List Int) => T P (i + 1) z ∧ y = z) (fun y j => rAt P (f + 1) i y (unitV P.orders.length j)) (fun y j => rAt P f (i + 1) y (unitV P.orders.length j)) (gt P.powers i) (i + 1) (zeros P.orders.length) (zeros P.orders.length) f ⟨L'.grp.one, rfl⟩ (by
          rintro y z l ⟨g1, rfl⟩ a b _
          have hul : T P (i + 1) (unitV P.orders.length l) := T.unit hP (by omega) (by omega)
          exact ⟨L'.grp.cl _ _ g1 hul, rAt_res hP hi g1 hul⟩)).2
        exact hr.trans this
      have hx2 := vec_head hP hi L' hx
      have assoc : rAt P (f + 1) i x (rAt P (f + 1) i (rAt P (f + 1) i (rFrom P f (i + 1) (x.set i 0)) (prV i ((gt P.orders i - gt x i).toNat, zeros P.orders.length))) (rFrom P f (i + 1) (gt P.powers i))) = zeros P.orders.length := by
        have hc := M.cl _ _ h1i hg
        rw [← M.ass _ _ _ hx hc h3i, ← M.ass _ _ _ hx h1i hg]
        have e4 : rAt P (f + 1) i x (rFrom P f (i + 1) (x.set i 0)) = prV i ((gt x i).toNat, zeros P.orders.length) := by
          have e5 : rAt P (f + 1) i x (rFrom P f (i + 1) (x.set i 0)) = rAt P (f + 1) i (rAt P (f + 1) i (prV i ((gt x i).toNat, zeros P.orders.length)) (x.set i 0)) (rFrom P f (i + 1) (x.set i 0)) := by rw [hx2]
          rw [e5, M.ass _ _ _ hg2 hdi h1i, e1, M.er _ hg2]
        rw [e4, e3, e2]
      exact assoc
end

section
variable {P : Pr} (G : Grp P)
include G

theorem Grp.mul_inv {x : List Int} (hx : Vec P.orders x) : rMul P x (rInv P x) = zeros P.orders.length := (rFrom_inv G P.orders.length 0 x (by omega) (T_zero.2 hx)).2
theorem Grp.inv_mul {x : List Int} (hx : Vec P.orders x) : rMul P (rInv P x) x = zeros P.orders.length := G.grp.right_left hx (rInv_vec G.v x hx) (G.mul_inv hx)
theorem Grp.mulV {x y : List Int} (hx : Vec P.orders x) (hy : Vec P.orders y) : Vec P.orders (rMul P x y) := G.grp.cl _ _ hx hy
theorem Grp.invV {x : List Int} (hx : Vec P.orders x) : Vec P.orders (rInv P x) := rInv_vec G.v x hx
theorem Grp.ass {x y z : List Int} (hx : Vec P.orders x) (hy : Vec P.orders y) (hz : Vec P.orders z) : rMul P (rMul P x y) z = rMul P x (rMul P y z) := G.grp.ass x y z hx hy hz
theorem Grp.oneV : Vec P.orders (zeros P.orders.length) := zeros_vec G.v
theorem Grp.conjV {x y : List Int} (hx : Vec P.orders x) (hy : Vec P.orders y) : Vec P.orders (rConj P x y) := G.mulV (G.invV hy) (G.mulV hx hy)
theorem Grp.iInv_eq {x : List Int} (hx : Vec P.orders x) : iInv P x = rInv P x :=
  G.grp.cancel hx (iInv_vec G.v x hx) (G.invV hx) (by rw [G.iInv_mul hx, G.mul_inv hx])
theorem Grp.iConj_eq {x y : List Int} (hx : Vec P.orders x) (hy : Vec P.orders y) : iConj P x y = rConj P x y := by
  unfold iConj rConj
  rw [G.iInv_eq hy, G.tv_eq hx hy, G.tv_eq (G.invV hy) (G.mulV hx hy)]
theorem Grp.conj_one {x : List Int} (hx : Vec P.orders x) : rConj P x (zeros P.orders.length) = x := by
  unfold rConj
  have h1 : rInv P (zeros P.orders.length) = zeros P.orders.length := by
    have := G.mul_inv G.oneV
    rw [G.grp.el _ (G.invV G.oneV)] at this
    exact this
  rw [h1, G.grp.er _ hx, G.grp.el _ hx]
theorem Grp.inv_of {x y : List Int} (hx : Vec P.orders x) (hy : Vec P.orders y) (h : rMul P x y = zeros P.orders.length) : y = rInv P x :=
  G.grp.cancel hx hy (G.invV hx) (by rw [h, G.mul_inv hx])
theorem Grp.inv_mulR {x y : List Int} (hx : Vec P.orders x) (hy : Vec P.orders y) : rInv P (rMul P x y) = rMul P (rInv P y) (rInv P x) := by
  symm
  refine G.inv_of (G.mulV hx hy) (G.mulV (G.invV hy) (G.invV hx)) ?_
  rw [G.ass hx hy (G.mulV (G.invV hy) (G.invV hx)), ← G.ass hy (G.invV hy) (G.invV hx), G.mul_inv hy, G.grp.el _ (G.invV hx), G.mul_inv hx]
theorem Grp.conj_mul {x y z : List Int} (hx : Vec P.orders x) (hy : Vec P.orders y) (hz : Vec P.orders z) : rConj P (rConj P x y) z = rConj P x (rMul P y z) := by
  unfold rConj
  have c1 := G.mulV hx hy
  rw [G.inv_mulR hy hz, G.ass (G.invV hz) (G.invV hy) (G.mulV hx (G.mulV hy hz)), G.ass (G.invV hy) c1 hz, G.ass hx hy hz]
theorem Grp.conj_back {x y : List Int} (hx : Vec P.orders x) (hy : Vec P.orders y) : rConj P (rConj P x y) (rInv P y) = x := by
  rw [G.conj_mul hx hy (G.invV hy), G.mul_inv hy, G.conj_one hx]
/-- a set that generators keep is kept by all -/
theorem Grp.gen_ind (Q : List Int → Prop) (h1 : Q (zeros P.orders.length)) (hm : ∀ y j, Vec P.orders y → Q y → j < P.orders.length → Q (rMul P y (unitV P.orders.length j))) {x : List Int} (hx : Vec P.orders x) : Q x := by
  have := acc_inv (fun y => Vec P.orders y ∧ Q y) (fun y j => rMul P y (unitV P.orders.length j)) x 0 (zeros P.orders.length) P.orders.length ⟨G.oneV, h1⟩ (fun y j hy _ b _ => ⟨G.mulV hy.1 (unitV_vec G.v j), hm y j hy.1 hy.2 (by omega)⟩)
  have h2 := G.nf hx
  unfold npr at h2
  rw [h2] at this
  exact this.2

end

end Go.Proofs.Ytljdneobfbimiaa

/- Plain: the numbers of elements: num and elAt undo one another. -/
namespace Go.Proofs.Ytljdneobfbimiaa

theorem elTo_len (o : List Int) (N : Nat) (m : Int) (k : Nat) : (elTo o N m k).1.length = N := by
  induction k with
  | zero => simp [elTo]
  | succ k ih => simp only [elTo]; rw [List.length_set, ih]

theorem elTo_keep (o : List Int) (N : Nat) (m : Int) (j k : Nat) (hk : j < k) (hkN : k ≤ N) : gt (elTo o N m k).1 (N - 1 - j) = (elTo o N m j).2 % gt o (N - 1 - j) := by
  induction k with
  | zero => omega
  | succ k ih =>
    simp only [elTo]
    by_cases e : j = k
    · subst e; rw [gt_set_eq _ _ _ (by rw [elTo_len]; omega)]
    · rw [gt_set_ne _ _ _ _ (by omega)]; exact ih (by omega) (by omega)

theorem elTo_lt {P : Pr} (hP : Valid P) (m : Int) (h1 : m < ordP P) (k : Nat) (hk : k ≤ P.orders.length) : (elTo P.orders P.orders.length m k).2 < prodTo P.orders (P.orders.length - k) := by
  induction k with
  | zero => exact h1
  | succ k ih =>
    have h2 := ih (by omega)
    have ho := hP.ord7 (P.orders.length - 1 - k) (by omega)
    simp only [elTo]
    have e : P.orders.length - k = (P.orders.length - (k + 1)) + 1 := by omega
    rw [e] at h2
    simp only [prodTo] at h2
    rw [show P.orders.length - (k + 1) = P.orders.length - 1 - k by omega] at h2 ⊢
    exact Int.ediv_lt_of_lt_mul (by omega) h2

theorem num_elAt {P : Pr} (hP : Valid P) (m : Int) (h0 : 0 ≤ m) (h1 : m < ordP P) : num P (elAt P m) = m := by
  have hz : (elTo P.orders P.orders.length m P.orders.length).2 = 0 := by
    have h2 := elTo_lt hP m h1 P.orders.length (Nat.le_refl _)
    have h3 := (elTo_inv hP m h0 P.orders.length (Nat.le_refl _)).2.1
    rw [Nat.sub_self] at h2
    simp only [prodTo] at h2
    omega
  have key : ∀ k, k ≤ P.orders.length → numTo P.orders (elAt P m) k = (elTo P.orders P.orders.length m (P.orders.length - k)).2 := by
    intro k
    induction k with
    | zero => intro _; simp only [numTo, Nat.sub_zero]; exact hz.symm
    | succ k ih =>
      intro hk
      simp only [numTo]
      rw [ih (by omega)]
      have e : P.orders.length - k = (P.orders.length - (k + 1)) + 1 := by omega
      have hg : gt (elAt P m) k = (elTo P.orders P.orders.length m (P.orders.length - (k + 1))).2 % gt P.orders k := by
        have := elTo_keep P.orders P.orders.length m (P.orders.length - (k + 1)) P.orders.length (by omega) (Nat.le_refl _)
        rw [show P.orders.length - 1 - (P.orders.length - (k + 1)) = k by omega] at this
        exact this
      rw [hg, e]
      simp only [elTo]
      rw [show P.orders.length - 1 - (P.orders.length - (k + 1)) = k by omega]
      have := Int.emod_add_mul_ediv (elTo P.orders P.orders.length m (P.orders.length - (k + 1))).2 (gt P.orders k)
      rw [Int.mul_comm] at this
      omega
  have h4 := key P.orders.length (Nat.le_refl _)
  rw [Nat.sub_self] at h4
  exact h4

theorem num_inj {P : Pr} (hP : Valid P) {x y : List Int} (hx : Vec P.orders x) (hy : Vec P.orders y) (h : num P x = num P y) : x = y := by
  have key : ∀ k, k ≤ P.orders.length → numTo P.orders x (P.orders.length - k) = numTo P.orders y (P.orders.length - k) ∧ ∀ j, P.orders.length - k ≤ j → j < P.orders.length → gt x j = gt y j := by
    intro k
    induction k with
    | zero => intro _; exact ⟨h, fun j a b => by omega⟩
    | succ k ih =>
      intro hk
      obtain ⟨h1, h2⟩ := ih (by omega)
      have e : P.orders.length - k = (P.orders.length - (k + 1)) + 1 := by omega
      rw [e] at h1
      simp only [numTo] at h1
      have ho := hP.ord7 (P.orders.length - (k + 1)) (by omega)
      have hxk := hx.2 (P.orders.length - (k + 1)) (by omega)
      have hyk := hy.2 (P.orders.length - (k + 1)) (by omega)
      have e1 : gt x (P.orders.length - (k + 1)) = gt y (P.orders.length - (k + 1)) := by
        have h3 : (numTo P.orders x (P.orders.length - (k + 1)) * gt P.orders (P.orders.length - (k + 1)) + gt x (P.orders.length - (k + 1))) % gt P.orders (P.orders.length - (k + 1)) = (numTo P.orders y (P.orders.length - (k + 1)) * gt P.orders (P.orders.length - (k + 1)) + gt y (P.orders.length - (k + 1))) % gt P.orders (P.orders.length - (k + 1)) := by rw [h1]
        rw [Int.add_comm, Int.add_mul_emod_self_right, Int.add_comm _ (gt y _), Int.add_mul_emod_self_right, Int.emod_eq_of_lt hxk.1 hxk.2, Int.emod_eq_of_lt hyk.1 hyk.2] at h3
        exact h3
      refine ⟨?_, fun j a b => ?_⟩
      · have h4 : numTo P.orders x (P.orders.length - (k + 1)) * gt P.orders (P.orders.length - (k + 1)) = numTo P.orders y (P.orders.length - (k + 1)) * gt P.orders (P.orders.length - (k + 1)) := by omega
        exact Int.eq_of_mul_eq_mul_right (by omega) h4
      · by_cases ej : j = P.orders.length - (k + 1)
        · rw [ej]; exact e1
        · exact h2 j (by omega) b
  have h5 := (key P.orders.length (Nat.le_refl _)).2
  exact ext_gt (by rw [hx.1, hy.1]) (fun k hk => h5 k (by omega) (by rw [← hx.1]; exact hk))

theorem elAt_num {P : Pr} (hP : Valid P) {x : List Int} (hx : Vec P.orders x) : elAt P (num P x) = x := by
  have hb := num_bd hP hx
  exact num_inj hP (elAt_vec hP _ hb.1) hx (num_elAt hP _ hb.1 hb.2)

end Go.Proofs.Ytljdneobfbimiaa

/- Lists of lists that a call builds by append, none of whose blocks is in A (a map that is written beside them). -/
namespace Go.Proofs.Ytljdneobfbimiaa
open Go.RowKit

/-- SlO, and none of its blocks is in A -/
def SlOA {α : Type} [Inhabited α] (El : (Nat → Prop) → World → Value → α → Prop) (E B : Nat) (A : Nat → Prop) (w : World) (v : Value) (xs : List α) : Prop :=
  ∃ (vs : List Value) (G : Nat → Nat → Prop), vs.length = xs.length ∧ OwnV B E w v vs ∧ (∀ i k, i < xs.length → G i k → B ≤ k ∧ v.ownBlock ≠ some k ∧ k < w.heap.size) ∧
    (∀ i j k, i < xs.length → j < xs.length → G i k → G j k → i = j) ∧ (∀ i, i < xs.length → El (G i) w (gt vs i) (gt xs i)) ∧ (∀ i k, i < xs.length → G i k → ¬ A k) ∧ ∀ k, v.ownBlock = some k → ¬ A k

theorem SlOA.o {α : Type} [Inhabited α] {El : (Nat → Prop) → World → Value → α → Prop} {E B : Nat} {A : Nat → Prop} {w : World} {v : Value} {xs : List α} (h : SlOA El E B A w v xs) : SlO El E B w v xs := by
  obtain ⟨vs, G, h1, h2, h3, h4, h5, _⟩ := h
  exact ⟨vs, G, h1, h2, h3, h4, h5⟩

/-- blocks in A that are not older than the list come into being behind it -/
theorem SlO.avoid {α : Type} [Inhabited α] {El : (Nat → Prop) → World → Value → α → Prop} {E B : Nat} {A : Nat → Prop} {w : World} {v : Value} {xs : List α} (h : SlO El E B w v xs) (hA : ∀ k, A k → w.heap.size ≤ k) : SlOA El E B A w v xs := by
  obtain ⟨vs, G, h1, h2, h3, h4, h5⟩ := h
  exact ⟨vs, G, h1, h2, h3, h4, h5, fun i k hi hk ha => by have := (h3 i k hi hk).2.2; have := hA k ha; omega, fun k hk ha => by have := (h2.lt k hk).2; have := hA k ha; omega⟩

theorem SlOA.ext {α : Type} [Inhabited α] {El : (Nat → Prop) → World → Value → α → Prop} (hEl : RdOk El) {E B : Nat} {A : Nat → Prop} {w w' : World} {v : Value} {xs : List α} (h : SlOA El E B A w v xs) (hg : Ext w w') : SlOA El E B A w' v xs := by
  obtain ⟨vs, G, hvl, hO, hG, hd, hE, hr⟩ := h
  refine ⟨vs, G, hvl, hO.kept hg (by cases hv : v.ownBlock <;> simp), fun i k hi hk => ?_, hd, fun i hi => hEl.mono (hE i hi) (fun k hk hlt => ⟨hk, Nat.lt_of_lt_of_le hlt hg.size, hg.block k hlt (by simp)⟩), hr⟩
  obtain ⟨a, b, c⟩ := hG i k hi hk
  exact ⟨a, b, Nat.lt_of_lt_of_le c hg.size⟩

/-- blocks that are not older than the list may be put to A -/
theorem SlOA.more {α : Type} [Inhabited α] {El : (Nat → Prop) → World → Value → α → Prop} {E B : Nat} {A A' : Nat → Prop} {w : World} {v : Value} {xs : List α} (h : SlOA El E B A w v xs) (hA : ∀ k, A' k → A k ∨ w.heap.size ≤ k) : SlOA El E B A' w v xs := by
  obtain ⟨vs, G, h1, h2, h3, h4, h5, h6, h7⟩ := h
  refine ⟨vs, G, h1, h2, h3, h4, h5, fun i k hi hk ha => ?_, fun k hk ha => ?_⟩
  · rcases hA k ha with h | h
    · exact h6 i k hi hk h
    · have := (h3 i k hi hk).2.2; omega
  · rcases hA k ha with h | h
    · exact h7 k hk h
    · have := (h2.lt k hk).2; omega
theorem SlOA.less {α : Type} [Inhabited α] {El : (Nat → Prop) → World → Value → α → Prop} {E B : Nat} {A A' : Nat → Prop} {w : World} {v : Value} {xs : List α} (h : SlOA El E B A w v xs) (hA : ∀ k, A' k → A k) : SlOA El E B A' w v xs :=
  h.more fun k hk => .inl (hA k hk)
theorem SlOA.avoids {α : Type} [Inhabited α] {El : (Nat → Prop) → World → Value → α → Prop} {E B : Nat} {A : Nat → Prop} {w : World} {v : Value} {xs : List α} (h : SlOA El E B A w v xs) (k : Nat) (hk : v.ownBlock = some k) : ¬ A k ∧ B ≤ k ∧ k < w.heap.size := by
  obtain ⟨vs, G, h1, h2, h3, h4, h5, h6, h7⟩ := h
  exact ⟨h7 k hk, h2.lt k hk⟩

/-- a block in A is written -/
theorem SlOA.kept {α : Type} [Inhabited α] {El : (Nat → Prop) → World → Value → α → Prop} (hEl : RdOk El) {E B m : Nat} {A : Nat → Prop} {w w' : World} {v : Value} {xs : List α} (h : SlOA El E B A w v xs) (hg : w.grownBy w' (some m)) (hm : A m) : SlOA El E B A w' v xs := by
  obtain ⟨vs, G, hvl, hO, hG, hd, hE, hr, hr2⟩ := h
  refine ⟨vs, G, hvl, hO.kept hg ?_, fun i k hi hk => ?_, hd, fun i hi => hEl.mono (hE i hi) (fun k hk hlt => ⟨hk, Nat.lt_of_lt_of_le hlt hg.size, hg.block k hlt (fun e => hr i k hi hk (by cases e; exact hm))⟩), hr, hr2⟩
  · cases hv : v.ownBlock with
    | none => exact .inl rfl
    | some b => exact .inr (fun e => hr2 b hv (by cases e; exact hm))
  · obtain ⟨a, b, c⟩ := hG i k hi hk
    exact ⟨a, b, Nat.lt_of_lt_of_le c hg.size⟩

/-- append of one element that was made since -/
theorem wp_app_oneA {α : Type} [Inhabited α] {El : (Nat → Prop) → World → Value → α → Prop} (hEl : RdOk El) (T E : Nat) (z : Value) (bytes : Nat) (hT : Try.prog.underlying T = some (.slice E))
    (hE : (Try.prog.info? E).map (fun i => (i.zero, i.size, i.bytes)) = some (some z, 1, bytes)) (hzs : z.cells.size = 1) (hbt : bytes ≤ 64)
    {ops : Array Oper} {rest : List Oper} {o : Oper} {a : Act} {Q : Exit → Act → World → Prop} {w : World} (hgd : o.guard = none) (s x : Operand)
    (ho : o.op = Op.call { callee := Callee.builtin Builtin.append, args := #[s, x], argTypes := #[T, T] }) (B : Nat) (A : Nat → Prop) (w1 w2 : World) (v u : Value) (xs : List α) (y : α) (hs : a.eval s = v) (hown : SlOA El E B A w1 v xs) (hA : ∀ k, A k → k < w1.heap.size)
    (r : Option Nat) (hg : w1.grownBy w2 r) (hrA : ∀ k, r = some k → A k) (hu : El (From w1.heap.size) w2 u y) (hw : w = w2.alloc (.cells #[u] E)) (hx : a.eval x = .slice (some ⟨w2.heap.size, 0, none⟩) 1 1) (hlen : xs.length ≤ 1000000) (hbase : B ≤ w1.heap.size)
    (h : ∀ v' w', SlOA El E B A w' v' (xs ++ [y]) → w2.grownBy w' v.ownBlock → wpList Try.prog ops Q rest (a.put o.dst v') w') :
    wpList Try.prog ops Q (o :: rest) a w := by
  subst hw
  obtain ⟨vs, G, hvl, hO, hG, hd, hEx, hr, hr2⟩ := hown
  have hga : Ext w2 (w2.alloc (.cells #[u] E)) := World.grownBy_alloc _ _ _
  have hne : v.ownBlock = none ∨ v.ownBlock ≠ r := by
    cases hv : v.ownBlock with
    | none => exact .inl rfl
    | some b => exact .inr (fun e => hr2 b hv (hrA b e.symm))
  have hO2 : OwnV B E (w2.alloc (.cells #[u] E)) v vs := hO.kept (grown_trans hg (grown_of_ext _ hga)) hne
  refine wp_app T E z bytes hT hE hzs hbt hgd s x ho B v vs hs hO2 (some ⟨w2.heap.size, 0, none⟩) 1 1 [u] hx rfl (by simp) ?_ ?_ (by omega) (by have := hg.size; simp; omega) ?_
  · intro j hj
    have : j = 0 := by omega
    subst this
    exact ⟨w2.heap.size, 0, rfl, by rw [World.cell?_alloc_at _ _ _ _ rfl]; rfl⟩
  · intro u' hu'
    simp at hu'; subst hu'; exact hEl.one hu
  · intro v' w' h1 h2 _ hat
    have hvb : ∀ k, v.ownBlock = some k → B ≤ k ∧ k < w1.heap.size := hO.lt
    have hg2 : w2.grownBy w' v.ownBlock := grown_trans (grown_of_ext _ hga) h2
    have hsz : w1.heap.size ≤ w'.heap.size := Nat.le_trans hg.size hg2.size
    have hv'b : ∀ k, v'.ownBlock = some k → v.ownBlock = some k ∨ w2.heap.size < k := by
      intro k hk
      rcases hat with h | h
      · exact .inl (by rw [← h]; exact hk)
      · rw [h] at hk
        have : (w2.alloc (.cells #[u] E)).heap.size = k := by simpa using hk
        simp at this
        exact .inr (by omega)
    refine h v' w' ⟨vs ++ [u], fun i k => if i < xs.length then G i k ∧ k < w1.heap.size else w1.heap.size ≤ k ∧ k < w2.heap.size, by simp [hvl], h1, ?_, ?_, ?_, ?_, ?_⟩ hg2
    · intro i k hi hk
      split at hk
      · rename_i hlt
        obtain ⟨a1, a2, a3⟩ := hG i k hlt hk.1
        refine ⟨a1, fun hv' => ?_, Nat.lt_of_lt_of_le a3 hsz⟩
        rcases hv'b k hv' with h | h
        · exact a2 h
        · have := hg.size; omega
      · refine ⟨by omega, fun hv' => ?_, Nat.lt_of_lt_of_le hk.2 hg2.size⟩
        rcases hv'b k hv' with h | h
        · have := hvb k h; omega
        · omega
    · intro i j k hi hj hk hk'
      simp only [List.length_append, List.length_singleton] at hi hj
      split at hk <;> split at hk'
      · exact hd i j k (by assumption) (by assumption) hk.1 hk'.1
      · omega
      · omega
      · omega
    · intro i hi
      simp only [List.length_append, List.length_singleton] at hi
      by_cases hlt : i < xs.length
      · rw [gt_append_left _ _ _ (by omega), gt_append_left _ _ _ hlt]
        simp only [if_pos hlt]
        exact hEl.mono (hEx i hlt) (fun k hk hkl => ⟨⟨hk, hkl⟩, Nat.lt_of_lt_of_le hkl hsz, (hg2.block k (Nat.lt_of_lt_of_le hkl hg.size) (fun e => (hG i k hlt hk).2.1 e.symm)).trans (hg.block k hkl (fun e => hr i k hlt hk (hrA k e.symm)))⟩)
      · have hi2 : i = xs.length := by omega
        subst hi2
        rw [gt_concat, ← hvl, gt_concat]
        simp only [hvl, Nat.lt_irrefl, if_false]
        exact hEl.mono hu (fun k hk hkl => ⟨⟨hk, hkl⟩, Nat.lt_of_lt_of_le hkl hg2.size, hg2.block k hkl (fun e => by
          have hk : w1.heap.size ≤ k := hk
          have := hvb k e.symm; omega)⟩)
    · intro i k hi hk ha
      split at hk
      · exact hr i k (by assumption) hk.1 ha
      · have := hA k ha; omega
    · intro k hk ha
      rcases hv'b k hk with h | h
      · exact hr2 k h ha
      · have := hA k ha; have := hg.size; omega

theorem wp_app_rowA {ops : Array Oper} {rest : List Oper} {o : Oper} {a : Act} {Q : Exit → Act → World → Prop} {w : World} (hgd : o.guard = none) (s x : Operand)
    (ho : o.op = Op.call { callee := Callee.builtin Builtin.append, args := #[s, x], argTypes := #[23, 23] }) (B : Nat) (A : Nat → Prop) (w1 w2 : World) (v u : Value) (xs : List (List Int)) (y : List Int) (hs : a.eval s = v)
    (hown : SlOA OwnIn 22 B A w1 v xs) (hA : ∀ k, A k → k < w1.heap.size)
    (r : Option Nat) (hg : w1.grownBy w2 r) (hrA : ∀ k, r = some k → A k) (hu : OwnIn (From w1.heap.size) w2 u y) (hw : w = w2.alloc (.cells #[u] 22)) (hx : a.eval x = .slice (some ⟨w2.heap.size, 0, none⟩) 1 1) (hlen : xs.length ≤ 1000000) (hbase : B ≤ w1.heap.size)
    (h : ∀ v' w', SlOA OwnIn 22 B A w' v' (xs ++ [y]) → w2.grownBy w' v.ownBlock → wpList Try.prog ops Q rest (a.put o.dst v') w') :
    wpList Try.prog ops Q (o :: rest) a w :=
  wp_app_oneA rdOwn 23 22 (.slice none 0 0) 24 und_rows Try.infoRow rfl (by decide) hgd s x ho B A w1 w2 v u xs y hs hown hA r hg hrA hu hw hx hlen hbase h

end Go.Proofs.Ytljdneobfbimiaa

/- The library's sort at [][]int64, laid from the shelf. -/
namespace Go.Proofs.Ytljdneobfbimiaa
open Go.Proofs Go.Shelf Go.RowKit Go.Lib Go.Sort
def Try.sortRows_ren : Go.Shelf.Ren := ⟨fun | 6 => 69 | 15 => 86 | 14 => 85 | 28 => 102 | 29 => 103 | 20 => 94 | 21 => 95 | 22 => 96 | 23 => 97 | 24 => 98 | 25 => 99 | 26 => 100 | 27 => 101 | 46 => 106 | 47 => 107 | 48 => 108 | 49 => 109 | 50 => 110 | 57 => 111 | n => n, fun | 22 => 23 | 24 => 22 | 25 => 73 | 3 => 3 | 39 => 92 | 0 => 0 | 53 => 110 | 55 => 112 | 4 => 4 | 46 => 104 | 45 => 103 | 50 => 71 | 5 => 5 | 9 => 9 | 66 => 113 | 70 => 117 | 76 => 119 | 77 => 120 | n => n, fun | n => n⟩
theorem Try.sortRows : Go.Proofs.SlLaysF.n6 Try.prog Try.sortRows_ren := {
  mixed := by kernel_rfl
  f6 := ⟨Try.f69.name, by decide, Try.func69.trans (congrArg some (by kernel_rfl))⟩
  f14 := ⟨Try.f85.name, by decide, Try.func85.trans (congrArg some (by kernel_rfl))⟩
  f15 := Try.func86.trans (congrArg some (by kernel_rfl))
  f20 := ⟨Try.f94.name, by decide, Try.func94.trans (congrArg some (by kernel_rfl))⟩
  f21 := ⟨Try.f95.name, by decide, Try.func95.trans (congrArg some (by kernel_rfl))⟩
  f22 := ⟨Try.f96.name, by decide, Try.func96.trans (congrArg some (by kernel_rfl))⟩
  f23 := ⟨Try.f97.name, by decide, Try.func97.trans (congrArg some (by kernel_rfl))⟩
  f24 := ⟨Try.f98.name, by decide, Try.func98.trans (congrArg some (by kernel_rfl))⟩
  f25 := ⟨Try.f99.name, by decide, Try.func99.trans (congrArg some (by kernel_rfl))⟩
  f26 := ⟨Try.f100.name, by decide, Try.func100.trans (congrArg some (by kernel_rfl))⟩
  f27 := ⟨Try.f101.name, by decide, Try.func101.trans (congrArg some (by kernel_rfl))⟩
  f28 := Try.func102.trans (congrArg some (by kernel_rfl))
  f29 := Try.func103.trans (congrArg some (by kernel_rfl))
  f46 := ⟨Try.f106.name, by decide, Try.func106.trans (congrArg some (by kernel_rfl))⟩
  f47 := Try.func107.trans (congrArg some (by kernel_rfl))
  f48 := Try.func108.trans (congrArg some (by kernel_rfl))
  f49 := ⟨Try.f109.name, by decide, Try.func109.trans (congrArg some (by kernel_rfl))⟩
  f50 := ⟨Try.f110.name, by decide, Try.func110.trans (congrArg some (by kernel_rfl))⟩
  f57 := ⟨Try.f111.name, by decide, Try.func111.trans (congrArg some (by kernel_rfl))⟩
  t0 := Try.underlying0
  a0 := Try.isAgg0
  z0 := Try.sizeOf0
  v0 := Try.zeroValue0
  t3 := Try.underlying3
  a3 := Try.isAgg3
  z3 := Try.sizeOf3
  v3 := Try.zeroValue3
  t4 := Try.underlying4
  a4 := Try.isAgg4
  z4 := Try.sizeOf4
  v4 := Try.zeroValue4
  t5 := Try.underlying5
  a5 := Try.isAgg5
  z5 := Try.sizeOf5
  v5 := Try.zeroValue5
  t9 := Try.underlying9
  a9 := Try.isAgg9
  z9 := Try.sizeOf9
  v9 := Try.zeroValue9
  t22 := Try.underlying23
  a22 := Try.isAgg23
  z22 := Try.sizeOf23
  v22 := Try.zeroValue23
  a24 := Try.isAgg22
  z24 := Try.sizeOf22
  t25 := Try.underlying73
  a25 := Try.isAgg73
  z25 := Try.sizeOf73
  v25 := Try.zeroValue73
  t39 := Try.underlying92
  a39 := Try.isAgg92
  z39 := Try.sizeOf92
  v39 := Try.zeroValue92
  t45 := Try.underlying103
  a45 := Try.isAgg103
  z45 := Try.sizeOf103
  v45 := Try.zeroValue103
  t46 := Try.underlying104
  a46 := Try.isAgg104
  z46 := Try.sizeOf104
  v46 := Try.zeroValue104
  t50 := Try.underlying71
  a50 := Try.isAgg71
  z50 := Try.sizeOf71
  v50 := Try.zeroValue71
  t53 := Try.underlying110
  a53 := Try.isAgg110
  z53 := Try.sizeOf110
  v53 := Try.zeroValue110
  t55 := Try.underlying112
  a55 := Try.isAgg112
  z55 := Try.sizeOf112
  v55 := Try.zeroValue112
  t66 := Try.underlying113
  a66 := Try.isAgg113
  z66 := Try.sizeOf113
  v66 := Try.zeroValue113
  t70 := Try.underlying117
  a70 := Try.isAgg117
  z70 := Try.sizeOf117
  v70 := Try.zeroValue117
  t76 := Try.underlying119
  a76 := Try.isAgg119
  z76 := Try.sizeOf119
  v76 := Try.zeroValue119
  t77 := Try.underlying120
  a77 := Try.isAgg120
  z77 := Try.sizeOf120
  v77 := Try.zeroValue120 }
end Go.Proofs.Ytljdneobfbimiaa

/- cmp.Compare at int64 and slices.Compare at []int64. -/
namespace Go.Proofs.Ytljdneobfbimiaa
open Go.RowKit

def cmpI (a b : Int) : Int := if a < b then -1 else if b < a then 1 else 0

theorem isNaN_ok (a : Int) (w : World) : Calls Try.prog 93 #[.int .i64 a] w fun e w' => e = .returned (.bool false) ∧ w' = w := by
  go_enter Try.func93, Try.ntmps93
  go_wp2
  exact bodyPost_ret (v := .bool false) (by simp [results, Try.results93, go_sem]) rfl ⟨rfl, rfl⟩

set_option maxHeartbeats 1000000 in
theorem cmpI_ok (a b : Int) (w : World) : Calls Try.prog 79 #[.int .i64 a, .int .i64 b] w fun e w' => e = .returned (.int .i64 (cmpI a b)) ∧ w' = w := by
  go_enter Try.func79, Try.ntmps79
  go_wp2_with fail
  refine Calls.mono (isNaN_ok a w) ?_
  rintro e1 w1 ⟨rfl, rfl⟩
  go_wp2_with fail
  refine Calls.mono (isNaN_ok b _) ?_
  rintro e1 w1 ⟨rfl, rfl⟩
  by_cases h1 : a < b
  · go_wp2
    exact bodyPost_ret (v := .int .i64 (-1)) (by simp [results, Try.results79, go_sem]) rfl ⟨by simp [cmpI, h1], rfl⟩
  · by_cases h2 : b < a
    · have h1' : b ≤ a := by omega
      go_wp2
      exact bodyPost_ret (v := .int .i64 1) (by simp [results, Try.results79, go_sem]) rfl ⟨by simp [cmpI, h1, h2], rfl⟩
    · have h1' : b = a := by omega
      subst h1'
      clear h1 h2
      go_wp2
      exact bodyPost_ret (v := .int .i64 0) (by simp [results, Try.results79, go_sem]) rfl ⟨by simp [cmpI], rfl⟩

/-- the order of slices.Compare -/
def cmpL : List Int → List Int → Int
  | [], [] => 0
  | [], _ :: _ => -1
  | _ :: _, [] => 1
  | x :: xs, y :: ys => if cmpI x y = 0 then cmpL xs ys else cmpI x y

theorem drop_gt {l : List Int} {k : Nat} (h : k < l.length) : l.drop k = gt l k :: l.drop (k + 1) := by
  rw [List.drop_eq_getElem_cons h]; simp [gt, h]

set_option maxHeartbeats 4000000 in
theorem sCompare_ok (a b : Value) (X Y : List Int) (w : World) (Sa Sb : Nat → Prop) (ha : Ints Sa w a X) (hb : Ints Sb w b Y) :
    Calls Try.prog 60 #[a, b] w fun e w' => e = .returned (.int .i64 (cmpL X Y)) ∧ w' = w := by
  obtain ⟨aa, capa, rfl, hla, _⟩ := ha.shape
  obtain ⟨ab, capb, rfl, hlb, _⟩ := hb.shape
  go_enter Try.func60, Try.ntmps60
  go_wp2
  go_loopw [11] (fun v wr => ∃ k : Nat, v = .int .i64 k ∧ k ≤ X.length ∧ k ≤ Y.length ∧ wr = w ∧ cmpL X Y = cmpL (X.drop k) (Y.drop k)) (fun v _ => X.length - (intOf v).toNat)
  case atStart => exact ⟨0, rfl, by omega, by omega, rfl, by simp⟩
  case round =>
    obtain ⟨k, rfl, hk, hkY, rfl, hcmp⟩ := hrel
    by_cases hlt : k < X.length
    · obtain ⟨ba, oa, rfl, _, _, hca⟩ := Ints.at ha k hlt
      by_cases hltY : k < Y.length
      · obtain ⟨bb, ob, rfl, _, _, hcb⟩ := Ints.at hb k hltY
        rw [drop_gt hlt, drop_gt hltY] at hcmp
        simp only [cmpL] at hcmp
        have HC := Lib.hid hcmp; clear hcmp
        go_wp2_with fail
        refine Calls.mono (cmpI_ok (gt X k) (gt Y k) _) ?_
        rintro e1 w1 ⟨rfl, rfl⟩
        by_cases hz : cmpI (gt X k) (gt Y k) = 0
        · have hcn := HC.out
          rw [if_pos hz] at hcn
          have HC2 := Lib.hid hcn; clear hcn HC
          go_wp2
          go_roundw
          case rel => exact ⟨k + 1, by go_num, by omega, by omega, trivial, HC2.out⟩
          case measure => simp [intOf]; omega
        · have hcn := HC.out
          rw [if_neg hz] at hcn
          have HC2 := Lib.hid hcn; clear hcn HC
          go_wp2
          exact bodyPost_ret (v := .int .i64 (cmpI (gt X k) (gt Y k))) (by simp [results, Try.results60, go_sem]) rfl ⟨by rw [HC2.out], rfl⟩
      · have hke : k = Y.length := by omega
        subst hke
        rw [drop_gt hlt, List.drop_length] at hcmp
        simp only [cmpL] at hcmp
        have HC := Lib.hid hcmp; clear hcmp
        go_wp2
        exact bodyPost_ret (v := .int .i64 1) (by simp [results, Try.results60, go_sem]) rfl ⟨by rw [HC.out], rfl⟩
    · have hke : k = X.length := by omega
      subst hke
      rw [List.drop_length] at hcmp
      by_cases hltY : X.length < Y.length
      · rw [drop_gt hltY] at hcmp
        simp only [cmpL] at hcmp
        have HC := Lib.hid hcmp; clear hcmp
        go_wp2
        exact bodyPost_ret (v := .int .i64 (-1)) (by simp [results, Try.results60, go_sem]) rfl ⟨by rw [HC.out], rfl⟩
      · have hle : Y.length ≤ X.length := by omega
        rw [List.drop_of_length_le hle] at hcmp
        simp only [cmpL] at hcmp
        have HC := Lib.hid hcmp; clear hcmp
        go_wp2
        exact bodyPost_ret (v := .int .i64 0) (by simp [results, Try.results60, go_sem]) rfl ⟨by rw [HC.out], rfl⟩

end Go.Proofs.Ytljdneobfbimiaa

/- The order of slices.Compare is a total order on lists of integers. Plain. -/
namespace Go.Proofs.Ytljdneobfbimiaa
open Go.RowKit

theorem cmpI_cases (a b : Int) : (cmpI a b = -1 ∧ a < b) ∨ (cmpI a b = 0 ∧ a = b) ∨ (cmpI a b = 1 ∧ b < a) := by
  unfold cmpI
  by_cases h : a < b
  · simp [h]
  · by_cases h2 : b < a
    · simp [h, h2]
    · simp [h, h2]; omega

theorem cmpL_zero : ∀ (x y : List Int), cmpL x y = 0 ↔ x = y
  | [], [] => by simp [cmpL]
  | [], _ :: _ => by simp [cmpL]
  | _ :: _, [] => by simp [cmpL]
  | x :: xs, y :: ys => by
    simp only [cmpL]
    rcases cmpI_cases x y with ⟨h, h2⟩ | ⟨h, h2⟩ | ⟨h, h2⟩
    · simp [h]; omega
    · rw [if_pos h, cmpL_zero xs ys]; simp [h2]
    · simp [h]; omega

theorem cmpL_swap : ∀ (x y : List Int), cmpL y x = - cmpL x y
  | [], [] => by simp [cmpL]
  | [], _ :: _ => by simp [cmpL]
  | _ :: _, [] => by simp [cmpL]
  | x :: xs, y :: ys => by
    simp only [cmpL]
    have ih := cmpL_swap xs ys
    rcases cmpI_cases x y with ⟨h, h2⟩ | ⟨h, h2⟩ | ⟨h, h2⟩ <;> rcases cmpI_cases y x with ⟨k, k2⟩ | ⟨k, k2⟩ | ⟨k, k2⟩ <;> simp [h, k, ih] <;> omega

theorem cmpL_le_trans : ∀ (x y z : List Int), cmpL x y ≤ 0 → cmpL y z ≤ 0 → cmpL x z ≤ 0
  | [], [], [] => by simp [cmpL]
  | [], [], _ :: _ => by simp [cmpL]
  | [], _ :: _, [] => by simp [cmpL]
  | [], _ :: _, _ :: _ => by simp [cmpL]
  | _ :: _, [], [] => by simp [cmpL]
  | _ :: _, [], _ :: _ => by simp [cmpL]
  | _ :: _, _ :: _, [] => by simp [cmpL]
  | x :: xs, y :: ys, z :: zs => by
    simp only [cmpL]
    have ih := cmpL_le_trans xs ys zs
    rcases cmpI_cases x y with ⟨h, h2⟩ | ⟨h, h2⟩ | ⟨h, h2⟩ <;> rcases cmpI_cases y z with ⟨k, k2⟩ | ⟨k, k2⟩ | ⟨k, k2⟩ <;> rcases cmpI_cases x z with ⟨l, l2⟩ | ⟨l, l2⟩ | ⟨l, l2⟩ <;> simp [h, k, l] <;> first | omega | (intros; omega) | exact ih | skip

theorem cmpL_total (x y : List Int) : cmpL x y ≤ 0 ∨ cmpL y x ≤ 0 := by have := cmpL_swap x y; omega
theorem cmpL_antisymm {x y : List Int} (h : cmpL x y ≤ 0) (k : cmpL y x ≤ 0) : x = y := by
  have := cmpL_swap x y
  exact (cmpL_zero x y).1 (by omega)

/-- ascending by cmpL -/
def SortedL (L : List (List Int)) : Prop := L.Pairwise (fun x y => cmpL x y ≤ 0)
def sortL (L : List (List Int)) : List (List Int) := L.mergeSort (fun x y => decide (cmpL x y ≤ 0))

theorem sortL_perm (L : List (List Int)) : (sortL L).Perm L := List.mergeSort_perm _ _
theorem sortL_sorted (L : List (List Int)) : SortedL (sortL L) := by
  have h := List.pairwise_mergeSort (le := fun x y => decide (cmpL x y ≤ 0)) (fun a b c h k => by simp at *; exact cmpL_le_trans a b c h k) (fun a b => by simp; exact cmpL_total a b) L
  exact h.imp (fun h => by simpa using h)

theorem sorted_unique : ∀ (L M : List (List Int)), SortedL L → SortedL M → L.Perm M → L = M := by
  intro L
  induction L with
  | nil => intro M _ _ h; exact (List.nil_perm.1 h).symm ▸ rfl
  | cons x L ih =>
    intro M hL hM hp
    cases M with
    | nil => exact absurd hp.symm (by simp)
    | cons y M =>
      have hxM : x ∈ y :: M := hp.subset (by simp)
      have hyL : y ∈ x :: L := hp.symm.subset (by simp)
      have hxy : x = y := by
        rcases List.mem_cons.1 hxM with h | h
        · exact h
        · rcases List.mem_cons.1 hyL with k | k
          · exact k.symm
          · exact cmpL_antisymm ((List.pairwise_cons.1 hL).1 y k) ((List.pairwise_cons.1 hM).1 x h)
      subst hxy
      rw [ih M (List.pairwise_cons.1 hL).2 (List.pairwise_cons.1 hM).2 (List.perm_cons x |>.1 hp)]

theorem sortL_unique {L M : List (List Int)} (h : M.Perm L) (hs : SortedL M) : M = sortL L :=
  sorted_unique _ _ hs (sortL_sorted L) (h.trans (sortL_perm L).symm)

theorem sortedL_le {C : List (List Int)} (h : SortedL C) {i j : Nat} (hij : i ≤ j) (hj : j < C.length) : cmpL (gt C i) (gt C j) ≤ 0 := by
  rcases Nat.lt_or_eq_of_le hij with h1 | rfl
  · have := (List.pairwise_iff_getElem.1 h) i j (by omega) hj h1
    simpa [gt, hj, show i < C.length by omega] using this
  · have := (cmpL_zero (gt C i) (gt C i)).2 rfl
    omega

theorem gt_mem {α : Type} [Inhabited α] {l : List α} {i : Nat} (h : i < l.length) : gt l i ∈ l := by
  simp only [gt, List.getD_eq_getElem?_getD, List.getElem?_eq_getElem h, Option.getD_some]
  exact List.getElem_mem h
theorem mem_gt {α : Type} [Inhabited α] {l : List α} {x : α} (h : x ∈ l) : ∃ i, i < l.length ∧ gt l i = x := by
  obtain ⟨i, hi, rfl⟩ := List.getElem_of_mem h
  exact ⟨i, hi, by simp [gt, hi]⟩

end Go.Proofs.Ytljdneobfbimiaa

/- A row that the call has built, sorted by the library: any elements of one cell. (After the library's Sort/OwnSortedInts, at a general reading.) -/
namespace Go.Proofs.Ytljdneobfbimiaa
open Go.Proofs Go.Shelf Go.RowKit Go.Lib Go.Sort

section
variable {α : Type} [Inhabited α] {enc : α → Value}
theorem holds_of_blockV {w : World} {g : Nat} {cur : Array Value} {e : TypeId} {ss : List α} (hb : w.heap[g]? = some (.cells cur e (0, 0))) (ht : cur.toList.take ss.length = ss.map enc) : Go.Sort.Holds enc w g 0 ss.toArray := by
  intro j hj
  have hj' : j < ss.length := by simpa using hj
  refine ⟨?_, by simp [World.frozen?, hb]⟩
  have h1 : (cur.toList.take ss.length)[j]? = (ss.map enc)[j]? := by rw [ht]
  rw [List.getElem?_take_of_lt hj'] at h1
  simp only [World.cell?, hb, Nat.zero_add]
  simp only [Option.isSome_none, Bool.false_eq_true, if_false]
  rw [← Array.getElem?_toList, h1]
  simp [hj']

theorem heap_sortedV {w : World} {g n : Nat} {os : Array Obj} {cur : Array Value} {e : TypeId} {fr : Nat × Nat} (d : Array α) (hb : w.heap[g]? = some (.cells cur e fr)) :
    (sortWorld enc w g 0 n d os).heap[g]? = some (.cells (putCells enc 0 d cur) e fr) := by
  have hg : g < w.heap.size := (Array.getElem?_eq_some_iff.1 hb).1
  unfold sortWorld
  rw [heap_grow_old _ _ (by simpa using hg)]
  simp [putRow, mapBlock, Sort.ahead, Array.getElem?_modify, hb, onCells]

theorem grownBy_sortedV {w : World} {g n : Nat} {os : Array Obj} (d : Array α) : w.grownBy (sortWorld enc w g 0 n d os) (some g) := by
  unfold sortWorld
  refine ⟨rfl, rfl, rfl, by simp, fun k hk hne => ?_⟩
  rw [heap_grow_old _ _ (by simpa using hk)]
  have : g ≠ k := fun e => hne (by rw [e])
  simp [putRow, mapBlock, Sort.ahead, Array.getElem?_modify, this]

theorem take_putCellsV (cur : Array Value) (ts : List α) (h : ts.length ≤ cur.size) : (putCells enc 0 ts.toArray cur).toList.take ts.length = ts.map enc := by
  apply List.ext_getElem?
  intro j
  by_cases hj : j < ts.length
  · rw [List.getElem?_take_of_lt hj, Array.getElem?_toList]
    simp [putCells, hj, show j < cur.size by omega]
  · rw [List.getElem?_take_eq_none (by omega), List.getElem?_eq_none (by simp; omega)]

theorem ownsRow_sortedV {w : World} {base g cap n : Nat} {e : TypeId} {os : Array Obj} {cur : Array Value} {ss ts : List α} (hl : ts.length = ss.length) (hbase : base ≤ g) (hb : w.heap[g]? = some (.cells cur e (0, 0)))
    (h1 : ss.length ≤ cap) (h2 : cap ≤ maxLen) (h3 : cur.size = cap * 1) :
    (sortWorld enc w g 0 n ts.toArray os).ownsRow base e 1 (.slice (some ⟨g, 0, none⟩) ss.length cap) ss.length (ts.map enc) :=
  ⟨by simp [hl], .inr ⟨g, cap, _, rfl, hbase, heap_sortedV _ hb, h1, h2, by simp [putCells, h3], by rw [Nat.mul_one, ← hl]; exact take_putCellsV cur ts (by omega)⟩⟩
end

/-- a slice value of the row, nil beyond it -/
def encAt (vs : List Value) (k : Nat) : Value := if k < vs.length then gt vs k else .slice none 0 0
def cfAt (L : List (List Int)) (i j : Nat) : Int := cmpL (gt L i) (gt L j)

theorem ltOf_true {L : List (List Int)} {x y : Nat} : ltOf (cfAt L) x y = true ↔ cmpL (gt L x) (gt L y) < 0 := by unfold ltOf; rw [decide_eq_true_iff]; rfl
theorem ltOf_false {L : List (List Int)} {x y : Nat} : ltOf (cfAt L) x y = false ↔ 0 ≤ cmpL (gt L x) (gt L y) := by
  unfold ltOf; rw [decide_eq_false_iff_not]; show ¬ (cmpL (gt L x) (gt L y) < 0) ↔ _; omega

theorem swo_cfAt (L : List (List Int)) : SWO (ltOf (cfAt L)) where
  irrefl x := by
    have := (cmpL_zero (gt L x) (gt L x)).2 rfl
    rw [ltOf_false]; omega
  trans x y z h k := by
    rw [ltOf_true] at *
    have h1 := cmpL_le_trans (gt L x) (gt L y) (gt L z) (by omega) (by omega)
    have h2 : cmpL (gt L x) (gt L z) ≠ 0 := by
      intro e
      rw [cmpL_zero] at e
      rw [e] at h
      have := cmpL_swap (gt L z) (gt L y)
      omega
    omega
  ntrans x y z h k := by
    rw [ltOf_false] at *
    have h1 := cmpL_swap (gt L x) (gt L y)
    have h2 := cmpL_swap (gt L y) (gt L z)
    have h3 := cmpL_swap (gt L x) (gt L z)
    have h4 := cmpL_le_trans (gt L z) (gt L y) (gt L x) (by omega) (by omega)
    omega

theorem encAt_one {vs : List Value} (h : ∀ i, i < vs.length → (gt vs i).oneCell' = true) : OneCell (encAt vs) := by
  intro k
  unfold encAt
  split
  · exact h k (by assumption)
  · rfl

theorem gt_inj {α : Type} [Inhabited α] {l : List α} (h : l.Nodup) {i j : Nat} (hi : i < l.length) (hj : j < l.length) (he : gt l i = gt l j) : i = j := by
  simp only [gt, List.getD_eq_getElem?_getD, List.getElem?_eq_getElem hi, List.getElem?_eq_getElem hj, Option.getD_some] at he
  rcases Nat.lt_trichotomy i j with h1 | h1 | h1
  · exact absurd he (List.pairwise_iff_getElem.1 h i j hi hj h1)
  · exact h1
  · exact absurd he.symm (List.pairwise_iff_getElem.1 h j i hj hi h1)

/-- slices.SortFunc with slices.Compare on rows that the call has built -/
theorem sortRows_ok (w : World) (v : Value) (L : List (List Int)) (B : Nat) (hL : RowsO B w v L) (hne : 0 < L.length) (hlen : L.length ≤ 1000000) :
    Calls Try.prog 69 #[v, .func (.func 60) #[] #[]] w fun e w' => e = .returned (.tuple #[]) ∧ RowsO B w' v (sortL L) ∧ w.grownBy w' v.ownBlock := by
  obtain ⟨vs, G, hvl, hO, hG, hd, hE⟩ := hL
  obtain ⟨_, ⟨rfl, h0⟩ | ⟨g, cap, cur, rfl, hBg, hb, hnc, hcm, hsz, hx⟩⟩ := hO
  · omega
  have hgs : g < w.heap.size := (Array.getElem?_eq_some_iff.1 hb).1
  have hone : OneCell (encAt vs) := encAt_one fun i hi => by
    exact rdOwn.one (hE i (by omega))
  have hmap : (List.range L.length).map (encAt vs) = vs := by
    apply List.ext_getElem (by simp [hvl])
    intro j h1 h2
    simp [encAt, gt, h2]
  have hH : Go.Sort.Holds (encAt vs) w g 0 (List.range L.length).toArray := holds_of_blockV hb (by rw [hmap, List.length_range, ← hvl]; simpa using hx)
  have eg : ∀ args w, (callFunc 60 args).run Try.prog w = .ok (.enter 60 args) w := enters_of Try.func60 (by kernel_rfl) rfl
  have hcmp : CmpReads Try.prog 60 #[] (encAt vs) (cfAt L) g 0 (List.range L.length).toArray.size w := by
    intro m os dk _ x y
    have hgr : w.grownBy (sortWorld (encAt vs) w g 0 m dk os) (some g) := grownBy_sortedV dk
    have hread : ∀ k, Ints Any (sortWorld (encAt vs) w g 0 m dk os) (encAt vs k) (gt L k) := by
      intro k
      by_cases hk : k < vs.length
      · have he := (hE k (by omega)).ints
        unfold encAt
        rw [if_pos hk]
        exact Ints.mono he (fun b hb2 hlt => ⟨trivial, Nat.lt_of_lt_of_le hlt hgr.size, hgr.block b hlt (fun e => (hG k b (by omega) hb2).2.1 (by cases e; rfl))⟩)
      · have h1 : gt L k = [] := by simp [gt, show ¬ k < L.length by omega]; rfl
        unfold encAt
        rw [if_neg hk, h1]
        exact ⟨none, 0, rfl, ⟨by simp, by simp, fun _ => rfl⟩, fun i hi => by simp at hi⟩
    refine (sCompare_ok _ _ _ _ _ _ _ (hread x) (hread y)).mono ?_
    rintro e w' ⟨rfl, rfl⟩
    exact ⟨rfl, 0, rfl⟩
  have hcon := Any.slices_SortFunc Try.sortRows (encAt vs) hone (cfAt L) (swo_cfAt L) 60 #[] g 0 cap (List.range L.length).toArray w eg hcmp.lays hH hgs (by simp; omega)
  change Calls Try.prog 69 _ _ _ at hcon
  have hsz2 : (List.range L.length).toArray.size = vs.length := by simp [hvl]
  rw [hsz2] at hcon
  refine hcon.mono ?_
  rintro e w' ⟨he, d', n, os, ⟨hs1, _, hperm⟩, hsorted, rfl⟩
  have hts : d'.toList.length = L.length := by simpa [hvl] using hs1
  have hP : d'.toList.Perm (List.range L.length) := by
    have h1 : d'.extract 0 vs.length = d' := by
      apply Array.ext'
      rw [hvl, ← hts]; simp
    have h2 : (List.range L.length).toArray.extract 0 vs.length = (List.range L.length).toArray := by
      apply Array.ext'
      rw [hvl]; simp
    rw [h1, h2] at hperm
    simpa using hperm
  have hin : ∀ i, i < L.length → gt d'.toList i < L.length := fun i hi => by
    have := hP.subset (gt_mem (l := d'.toList) (i := i) (by omega))
    simpa using this
  have hnd : d'.toList.Nodup := hP.symm.nodup List.nodup_range
  have hmapL : (List.range L.length).map (gt L) = L := by
    apply List.ext_getElem (by simp)
    intro j h1 h2
    simp [gt, h2]
  have hsort : d'.toList.map (gt L) = sortL L := by
    refine sortL_unique ?_ ?_
    · have := hP.map (gt L)
      rwa [hmapL] at this
    · refine List.pairwise_iff_getElem.2 ?_
      intro i j hi hj hij
      have hi' : i < d'.size := by simpa using hi
      have hj' : j < d'.size := by simpa using hj
      have h1 := hsorted i j (Nat.zero_le _) hij (by rw [hs1, hsz2] at hj'; exact hj')
      rw [ltOf_false, getElem!_pos d' i hi', getElem!_pos d' j hj'] at h1
      have h2 := cmpL_swap (gt L d'[j]) (gt L d'[i])
      simp only [List.getElem_map, Array.getElem_toList]
      omega
  have hgr : w.grownBy (sortWorld (encAt vs) w g 0 n d' os) (some g) := grownBy_sortedV d'
  have hgv : ∀ i, i < L.length → gt (d'.toList.map (encAt vs)) i = gt vs (gt d'.toList i) := fun i hi => by
    have h1 : gt (d'.toList.map (encAt vs)) i = encAt vs (gt d'.toList i) := gt_map _ _ _ (by omega)
    rw [h1]; unfold encAt; rw [if_pos (by rw [hvl]; exact hin i hi)]
  have hgL : ∀ i, i < L.length → gt (sortL L) i = gt L (gt d'.toList i) := fun i hi => by
    rw [← hsort]; exact gt_map _ _ _ (by omega)
  have hsl : (sortL L).length = L.length := (sortL_perm L).length_eq
  refine ⟨he, ⟨d'.toList.map (encAt vs), fun i k => G (gt d'.toList i) k, by simp [hsl, ← hts], ?_, ?_, ?_, ?_⟩, hgr⟩
  · have := ownsRow_sortedV (enc := encAt vs) (n := n) (os := os) (ss := List.range L.length) (ts := d'.toList) (by rw [hts, List.length_range]) hBg hb (by rw [List.length_range, ← hvl]; exact hnc) hcm hsz
    rw [List.length_range, ← hvl] at this
    unfold OwnV
    rw [show (d'.toList.map (encAt vs)).length = vs.length by rw [List.length_map, hts, hvl]]
    simpa using this
  · intro i k hi hk
    obtain ⟨a1, a2, a3⟩ := hG _ k (hin i (by omega)) hk
    exact ⟨a1, a2, Nat.lt_of_lt_of_le a3 hgr.size⟩
  · intro i j k hi hj hk hk'
    exact gt_inj hnd (by omega) (by omega) (hd _ _ k (hin i (by omega)) (hin j (by omega)) hk hk')
  · intro i hi
    show OwnIn _ _ _ _
    rw [hgv i (by omega), hgL i (by omega)]
    have he := hE _ (hin i (by omega))
    exact rdOwn.mono he (fun b hb2 hlt => ⟨hb2, Nat.lt_of_lt_of_le hlt hgr.size, hgr.block b hlt (fun e => (hG _ b (hin i (by omega)) hb2).2.1 (by cases e; rfl))⟩)

end Go.Proofs.Ytljdneobfbimiaa

/- The map of numbers seen, of impl.classOf: a set of integers. -/
namespace Go.Proofs.Ytljdneobfbimiaa
open Go.RowKit
open Go.Maps (Keyed)

theorem und_seen : Try.prog.underlying 79 = some (.map 2 4) := by kernel_rfl
theorem und_bool : Try.prog.underlying 4 = some .bool := by kernel_rfl
theorem und_int64 : Try.prog.underlying 2 = some (.int .i64) := by kernel_rfl

/-- the map in block b holds just the numbers ns -/
def Seen (w : World) (b : Nat) (ns : List Int) : Prop :=
  ∃ (n : Nat) (D : DataW Unit), w.ownsMap Try.prog 2 (plainElem Try.prog 4) b n D ∧ n ≤ ns.length ∧ Maps.IsMap D ∧
    ∀ a : Int, (Lit.int .i64 a).wf = true → D.atKey (.int .i64 a) (.lit (.bool false)) = .lit (.bool (decide (a ∈ ns)))

theorem Seen.made (w : World) : Seen (w.alloc (.map #[] 0)) w.heap.size [] :=
  ⟨0, .map [], World.ownsMap_made _ _ _ _, Nat.le_refl _, Maps.isMap_empty, fun a _ => by simp [WideAt.atKey_none]⟩
theorem Seen.lt {w : World} {b : Nat} {ns : List Int} (h : Seen w b ns) : b < w.heap.size := by
  obtain ⟨n, D, h, _⟩ := h
  exact h.lt
theorem Seen.kept {w w' : World} {b : Nat} {ns : List Int} {r : Option Nat} (h : Seen w b ns) (hg : w.grownBy w' r) (hne : some b ≠ r) : Seen w' b ns := by
  obtain ⟨n, D, h, h2⟩ := h
  exact ⟨n, D, h.kept hg hne, h2⟩
theorem Seen.look {w : World} {b : Nat} {ns : List Int} (h : Seen w b ns) (a : Int) (ha : (Lit.int .i64 a).wf = true) :
    (Instr.lookup 79 (.map (some b)) (.int .i64 a) false).run Try.prog w = .ok (.bool (decide (a ∈ ns))) w := by
  obtain ⟨n, D, h, _, _, hat⟩ := h
  obtain ⟨v, ps, hrun, hv⟩ := h.lookup (Maps.int_keyed und_int64) und_seen (z := .bool false) (by kernel_rfl) (plainElem_bool und_bool false) (Maps.keyOf_int_mk und_int64 ha)
  rw [hat a ha] at hv
  have hvv : v = .bool (decide (a ∈ ns)) := by
    unfold plainElem at hv
    rw [und_bool] at hv
    cases v <;> simp at hv
    rw [hv.1]
  rw [hrun, hvv]
theorem Seen.update {w : World} {b : Nat} {ns : List Int} (h : Seen w b ns) (a : Int) (ha : (Lit.int .i64 a).wf = true) (hl : ns.length ≤ 1048576) :
    ∃ w', (Instr.mapUpdate 79 (.map (some b)) (.int .i64 a) (.bool true)).run Try.prog w = .ok () w' ∧ Seen w' b (a :: ns) ∧ w.grownBy w' (some b) := by
  obtain ⟨n, D, h, hn, hM, hat⟩ := h
  obtain ⟨w', hrun, hown, hg⟩ := h.update (Maps.int_keyed und_int64) und_seen (by unfold maxLen; omega) (Maps.keyOf_int_mk und_int64 ha) (plainElem_bool und_bool true)
  refine ⟨w', hrun, ⟨n + 1, _, hown, by simp; omega, hM.put _ _, ?_⟩, hg⟩
  intro c hc
  by_cases he : c = a
  · subst he
    rw [Maps.atKey_put_same hM (by trivial)]
    simp
  · rw [Maps.atKey_put_other (by intro e; cases e; exact he rfl), hat c hc]
    simp [he]

theorem Seen.congr {w : World} {b : Nat} {ns ms : List Int} (h : Seen w b ns) (hl : ns.length ≤ ms.length) (he : ∀ a, a ∈ ns ↔ a ∈ ms) : Seen w b ms := by
  obtain ⟨n, D, h1, h2, h3, h4⟩ := h
  exact ⟨n, D, h1, Nat.le_trans h2 hl, h3, fun a ha => by rw [h4 a ha]; simp [he a]⟩

end Go.Proofs.Ytljdneobfbimiaa

/- Finding an element: slices.BinarySearchFunc with slices.Compare, slices.IndexFunc, impl.classNumber. -/
namespace Go.Proofs.Ytljdneobfbimiaa
open Go.RowKit

/-- the binary search of the library: the first place in [lo, hi) whose row is not less than X -/
def bsTo (C : List (List Int)) (X : List Int) : Nat → Nat → Nat → Nat
  | 0, lo, _ => lo
  | f + 1, lo, hi => if lo < hi then (if cmpL (gt C ((lo + hi) / 2)) X < 0 then bsTo C X f ((lo + hi) / 2 + 1) hi else bsTo C X f lo ((lo + hi) / 2)) else lo
def bs (C : List (List Int)) (X : List Int) : Nat := bsTo C X (C.length + 1) 0 C.length
def bsFound (C : List (List Int)) (X : List Int) : Bool := decide (bs C X < C.length) && decide (cmpL (gt C (bs C X)) X = 0)

set_option maxHeartbeats 4000000 in
theorem binSearch_ok (c x : Value) (C : List (List Int)) (X : List Int) (w : World) (Sc Sx : Nat → Prop) (hc : Rows2 Sc w c C) (hx : Ints Sx w x X) (hlen : C.length ≤ 1048576) :
    Calls Try.prog 59 #[c, x, .func (.func 60) #[] #[]] w fun e w' => e = .returned (.tuple #[.int .i64 (bs C X : Nat), .bool (bsFound C X)]) ∧ w' = w := by
  obtain ⟨ac, capc, rfl, _, _⟩ := hc.shape
  go_enter Try.func59, Try.ntmps59
  go_wp2
  go_loopw [9, 10] (fun lv hv wr => ∃ lo hi f : Nat, lv = .int .i64 lo ∧ hv = .int .i64 hi ∧ lo ≤ hi ∧ hi ≤ C.length ∧ hi < lo + f ∧ wr = w ∧ bs C X = bsTo C X f lo hi) (fun lv hv _ => (intOf hv - intOf lv).toNat)
  case atStart => exact ⟨0, C.length, C.length + 1, rfl, rfl, by omega, by omega, by omega, rfl, rfl⟩
  case round =>
    obtain ⟨lo, hi, f, rfl, rfl, hlh, hhi, hf, rfl, hbs⟩ := hrel
    have HB := Lib.hid hbs; clear hbs
    by_cases hlt : lo < hi
    · have hlt' : (lo : Int) < hi := by omega
      obtain ⟨f, rfl⟩ : ∃ f', f = f' + 1 := ⟨f - 1, by omega⟩
      have hbs := HB.out
      simp only [bsTo, if_pos hlt] at hbs
      have HB2 := Lib.hid hbs; clear hbs HB
      obtain ⟨mid, hmid⟩ : ∃ mid, (lo + hi) / 2 = mid := ⟨_, rfl⟩
      have hm1 : lo ≤ mid ∧ mid < hi := by omega
      obtain ⟨bc, oc, ac2, capc2, rfl, _, _, hcc, hci⟩ := Rows2.at hc mid (by omega)
      have hcon := sCompare_ok _ x (gt C mid) X wr _ _ hci hx
      go_wp2_with fail
      refine Calls.mono hcon ?_
      rintro e1 w1 ⟨rfl, rfl⟩
      clear hcon
      rw [hmid] at HB2
      by_cases hneg : cmpL (gt C mid) X < 0
      · have hbs := HB2.out
        rw [if_pos hneg] at hbs
        have HB3 := Lib.hid hbs; clear hbs HB2 hcc
        go_wp2
        go_roundw
        case rel => exact ⟨mid + 1, hi, f, by go_num, rfl, by omega, by omega, by omega, trivial, HB3.out⟩
        case measure => simp [intOf]; omega
      · have hbs := HB2.out
        rw [if_neg hneg] at hbs
        have HB3 := Lib.hid hbs; clear hbs HB2 hcc
        go_wp2
        go_roundw
        case rel => exact ⟨lo, mid, f, rfl, congrArg (Value.int .i64) (by omega), by omega, by omega, by omega, trivial, HB3.out⟩
        case measure => simp [intOf]; omega
    · have hle : hi ≤ lo := by omega
      have hbs := HB.out
      have hbl : bs C X = lo := by
        rw [hbs]; cases f with
        | zero => rfl
        | succ f => simp only [bsTo, if_neg hlt]
      have HBL := Lib.hid hbl; clear hbl hbs HB
      have hbf : bsFound C X = (decide (lo < C.length) && decide (cmpL (gt C lo) X = 0)) := by unfold bsFound; rw [HBL.out]
      have HBF := Lib.hid hbf; clear hbf
      by_cases hin : lo < C.length
      · obtain ⟨bc, oc, ac2, capc2, rfl, _, _, hcc, hci⟩ := Rows2.at hc lo hin
        have hcon := sCompare_ok _ x (gt C lo) X wr _ _ hci hx
        go_wp2_with fail
        refine Calls.mono hcon ?_
        rintro e1 w1 ⟨rfl, rfl⟩
        clear hcon
        go_wp2
        exact bodyPost_ret (v := .tuple #[.int .i64 lo, .bool (cmpL (gt C lo) X == 0)]) (by simp [results, Try.results59, go_sem]) rfl ⟨by rw [HBL.out, HBF.out]; simp [hin]; rfl, rfl⟩
      · have hin' : C.length ≤ lo := by omega
        go_wp2
        exact bodyPost_ret (v := .tuple #[.int .i64 lo, .bool false]) (by simp [results, Try.results59, go_sem]) rfl ⟨by rw [HBL.out, HBF.out]; simp [hin], rfl⟩

set_option maxHeartbeats 4000000 in
theorem numClosure_ok (c x : Value) (pb : Nat) (C : List (List Int)) (X : List Int) (w : World) (Sc Sx : Nat → Prop) (hc : Rows2 Sc w c C) (hx : Ints Sx w x X) (hlen : C.length ≤ 1048576) (hp : w.cell? ⟨pb, 0, none⟩ = some x) :
    Calls Try.prog 58 #[c, .pointer (some ⟨pb, 0, none⟩)] w fun e w' => e = .returned (.bool (bsFound C X)) ∧ w' = w := by
  obtain ⟨ac, capc, rfl, _, _⟩ := hc.shape
  obtain ⟨ax, capx, rfl, _, _⟩ := hx.shape
  go_enter Try.func58, Try.ntmps58
  go_wp2_with fail
  refine Calls.mono (binSearch_ok _ _ C X w _ _ hc hx hlen) ?_
  rintro e1 w1 ⟨rfl, rfl⟩
  go_wp2
  exact bodyPost_ret (v := .bool (bsFound C X)) (by simp [results, Try.results58, go_sem]) rfl ⟨rfl, rfl⟩

/-- r is the first index below n at which p holds, or -1 -/
def FirstAt (p : Nat → Bool) (n : Nat) (r : Int) : Prop := (∃ k : Nat, r = k ∧ k < n ∧ p k = true ∧ ∀ j, j < k → p j = false) ∨ (r = -1 ∧ ∀ j, j < n → p j = false)

set_option maxHeartbeats 4000000 in
theorem indexFunc_ok (cc x : Value) (pb : Nat) (CC : List (List (List Int))) (X : List Int) (w : World) (Sc Sx : Nat → Prop) (hc : Rows3 Sc w cc CC) (hx : Ints Sx w x X) (hlen : ∀ i, i < CC.length → (gt CC i).length ≤ 1048576) (hp : w.cell? ⟨pb, 0, none⟩ = some x) :
    Calls Try.prog 57 #[cc, .func (.func 58) #[] #[.pointer (some ⟨pb, 0, none⟩)]] w fun e w' => (∃ r : Int, e = .returned (.int .i64 r) ∧ FirstAt (fun i => bsFound (gt CC i) X) CC.length r) ∧ w' = w := by
  obtain ⟨ac, capc, rfl, _, _⟩ := Sl.shape hc
  go_enter Try.func57, Try.ntmps57
  go_wp2
  go_loopw [8] (fun v wr => ∃ k : Nat, v = .int .i64 k ∧ k ≤ CC.length ∧ wr = w ∧ ∀ j, j < k → bsFound (gt CC j) X = false) (fun v _ => CC.length - (intOf v).toNat)
  case atStart => exact ⟨0, rfl, by omega, rfl, fun j h => by omega⟩
  case round =>
    obtain ⟨k, rfl, hk, rfl, hno⟩ := hrel
    have HN := Lib.hid hno; clear hno
    by_cases hlt : k < CC.length
    · have hlt' : (k : Int) < CC.length := by omega
      obtain ⟨bc, oc, ac2, capc2, rfl, _, _, hcc, hci⟩ := Rows3.at hc k hlt
      have hl := hlen k hlt
      have hcon := numClosure_ok _ x pb (gt CC k) X wr _ _ hci hx hl hp
      clear hp
      go_wp2_with fail
      refine Calls.mono hcon ?_
      rintro e1 w1 ⟨rfl, rfl⟩
      clear hcon
      cases hb : bsFound (gt CC k) X with
      | true =>
        have HB := Lib.hid hb; clear hb
        go_wp2
        exact bodyPost_ret (v := .int .i64 k) (by simp [results, Try.results57, go_sem]) rfl ⟨⟨_, rfl, .inl ⟨k, rfl, hlt, HB.out, HN.out⟩⟩, rfl⟩
      | false =>
        have HB := Lib.hid hb; clear hb hcc
        go_wp2
        go_roundw
        case rel => exact ⟨k + 1, by go_num, by omega, trivial, fun j hj => by
          rcases Nat.lt_or_ge j k with h | h
          · exact HN.out j h
          · have : j = k := by omega
            rw [this]; exact HB.out⟩
        case measure => simp [intOf]; omega
    · have hke : k = CC.length := by omega
      subst hke
      go_wp2
      exact bodyPost_ret (v := .int .i64 (-1)) (by simp [results, Try.results57, go_sem]) rfl ⟨⟨_, rfl, .inr ⟨rfl, HN.out⟩⟩, rfl⟩

set_option maxHeartbeats 4000000 in
theorem classNumber_ok (cc x : Value) (CC : List (List (List Int))) (X : List Int) (w : World) (Sc Sx : Nat → Prop) (hc : Rows3 Sc w cc CC) (hx : Ints Sx w x X) (hlen : ∀ i, i < CC.length → (gt CC i).length ≤ 1048576) :
    Calls Try.prog 42 #[cc, x] w (Ret w fun _ v => ∃ r : Int, v = .int .i64 r ∧ FirstAt (fun i => bsFound (gt CC i) X) CC.length r) := by
  obtain ⟨ac, capc, rfl, _, _⟩ := Sl.shape hc
  obtain ⟨ax, capx, rfl, _, _⟩ := hx.shape
  go_enter Try.func42, Try.ntmps42
  go_wp2_with fail
  have hg0 : Ext w (w.alloc (.cells #[.slice ax X.length capx] 22)) := World.grownBy_alloc _ _ _
  refine Calls.mono (indexFunc_ok _ _ w.heap.size CC X _ _ _ (Rows3.ext hc hg0) (Ints.ext hx hg0) hlen (by rw [World.cell?_alloc_at _ _ _ _ rfl]; rfl)) ?_
  rintro e1 w1 ⟨⟨r, rfl, hr⟩, rfl⟩
  go_wp2
  exact bodyPost_ret (v := .int .i64 r) (by simp [results, Try.results42, go_sem]) rfl ⟨_, rfl, hg0, r, rfl, hr⟩

end Go.Proofs.Ytljdneobfbimiaa

/- Plain: a search in a sorted row finds just its members. -/
namespace Go.Proofs.Ytljdneobfbimiaa

theorem bsTo_spec (C : List (List Int)) (X : List Int) (hs : SortedL C) : ∀ (f lo hi : Nat), hi < lo + f → lo ≤ hi → hi ≤ C.length →
    (∀ j, j < lo → cmpL (gt C j) X < 0) → (∀ j, hi ≤ j → j < C.length → 0 ≤ cmpL (gt C j) X) →
    bsTo C X f lo hi ≤ C.length ∧ (∀ j, j < bsTo C X f lo hi → cmpL (gt C j) X < 0) ∧ (∀ j, bsTo C X f lo hi ≤ j → j < C.length → 0 ≤ cmpL (gt C j) X) := by
  intro f
  induction f with
  | zero => intro lo hi h1 h2; omega
  | succ f ih =>
    intro lo hi h1 h2 h3 h4 h5
    simp only [bsTo]
    by_cases hlt : lo < hi
    · rw [if_pos hlt]
      by_cases hn : cmpL (gt C ((lo + hi) / 2)) X < 0
      · rw [if_pos hn]
        refine ih _ _ (by omega) (by omega) h3 ?_ h5
        intro j hj
        have h6 := sortedL_le hs (show j ≤ (lo + hi) / 2 by omega) (by omega)
        have h7 : ¬ (0 ≤ cmpL (gt C j) X) := by
          intro h8
          have h9 := cmpL_swap (gt C j) X
          have h10 := cmpL_le_trans X (gt C j) (gt C ((lo + hi) / 2)) (by omega) h6
          have h11 := cmpL_swap (gt C ((lo + hi) / 2)) X
          omega
        omega
      · rw [if_neg hn]
        refine ih _ _ (by omega) (by omega) (by omega) h4 ?_
        intro j hj hj2
        have h6 := sortedL_le hs (show (lo + hi) / 2 ≤ j by omega) hj2
        have h7 : ¬ (cmpL (gt C j) X < 0) := by
          intro h8
          have h10 := cmpL_le_trans (gt C ((lo + hi) / 2)) (gt C j) X h6 (by omega)
          have h11 : cmpL (gt C ((lo + hi) / 2)) X = 0 := by omega
          rw [cmpL_zero] at h11
          rw [h11] at h6
          have := cmpL_swap X (gt C j)
          omega
        omega
    · rw [if_neg hlt]
      exact ⟨by omega, h4, fun j hj hj2 => h5 j (by omega) hj2⟩

/-- on a sorted row the library's search finds just the members -/
theorem bsFound_mem (C : List (List Int)) (X : List Int) (hs : SortedL C) : bsFound C X = decide (X ∈ C) := by
  obtain ⟨h1, h2, h3⟩ := bsTo_spec C X hs (C.length + 1) 0 C.length (by omega) (by omega) (Nat.le_refl _) (fun j hj => by omega) (fun j hj hj2 => by omega)
  have hb : bs C X = bsTo C X (C.length + 1) 0 C.length := rfl
  rw [← hb] at h1 h2 h3
  by_cases hm : X ∈ C
  · obtain ⟨i, hi, hx⟩ := mem_gt hm
    have h0 : cmpL (gt C i) X = 0 := (cmpL_zero _ _).2 hx
    have hbi : bs C X ≤ i := by
      rcases Nat.lt_or_ge i (bs C X) with h | h
      · have := h2 i h; omega
      · exact h
    have h4 := h3 (bs C X) (Nat.le_refl _) (by omega)
    have h5 := sortedL_le hs hbi hi
    rw [hx] at h5
    have h6 : cmpL (gt C (bs C X)) X = 0 := by omega
    simp [bsFound, hm, h6]; omega
  · by_cases hl : bs C X < C.length
    · have : cmpL (gt C (bs C X)) X ≠ 0 := by
        intro h
        rw [cmpL_zero] at h
        exact hm (h ▸ gt_mem hl)
      simp [bsFound, hm, this]
    · simp [bsFound, hm]; omega

end Go.Proofs.Ytljdneobfbimiaa

/- Rows of bools of the call's own; a region that ends in a store. -/
namespace Go.Proofs.Ytljdneobfbimiaa
open Go.RowKit

/-! ### a row of bools of the call's own -/
abbrev BOwn (base : Nat) (w : World) (v : Value) (l : List Bool) : Prop := w.ownsRow base 4 1 v l.length (l.map Value.bool)
theorem und_bools : Try.prog.underlying 62 = some (.slice 4) := by kernel_rfl
theorem Try.infoBool : (Try.prog.info? 4).map (fun i => (i.zero, i.size, i.bytes)) = some (some (.bool false), 1, 1) := by kernel_rfl

theorem wp_make_bools {ops : Array Oper} {rest : List Oper} {o : Oper} {a : Act} {Q : Exit → Act → World → Prop} {w : World} (hgd : o.guard = none) (l c : Operand)
    (ho : o.op = Op.makeSlice 62 l c) (base n H : Nat) (hH : w.heap.size = H) (L : Int) (hl : a.eval l = .int .i64 L) (hc : a.eval c = .int .i64 L) (hL : L = n) (hn : n ≤ 2147483648) (hbase : base ≤ H)
    (h : ∀ w', BOwn base w' (.slice (some ⟨H, 0, none⟩) n n) (List.replicate n false) → Ext w w' → H < w'.heap.size → wpList Try.prog ops Q rest (a.put o.dst (.slice (some ⟨H, 0, none⟩) n n)) w') :
    wpList Try.prog ops Q (o :: rest) a w := by
  subst hH
  obtain ⟨i0, hi, hz0, hz1, hz2⟩ := info_parts Try.infoBool
  refine wpList_make_full w hgd l c 62 ho base 4 i0 (.bool false) 1 und_bools hi hz0 hz1 .i64 .i64 L L n hl hc hL hL (by rw [hz2]; omega) (by unfold maxLen; omega) hbase ?_
  intro w' h1 h2
  refine h w' ?_ h2 (h1.lt w.heap.size rfl).2
  have e : (madeCells (Value.cells (.bool false)) (n * 1)).toList = (List.replicate n false).map Value.bool := by
    rw [show Value.cells (.bool false) = #[.bool false] from rfl, toList_madeCells_one]; simp
  rw [e] at h1
  show World.ownsRow _ _ _ _ _ _ _
  rw [List.length_replicate]; exact h1

theorem BOwn.cell {base g cap n : Nat} {w : World} {l : List Bool} (h : BOwn base w (.slice (some ⟨g, 0, none⟩) n cap) l) (j : Nat) (hj : j < l.length) : w.cell? ⟨g, j, none⟩ = some (.bool (gt l j)) := by
  have hn : n = l.length := by
    obtain ⟨_, ⟨h, _⟩ | ⟨_, _, _, h, _⟩⟩ := h <;> cases h; rfl
  subst hn
  have := World.ownsRow.cellAt h j (by omega)
  rw [this]; simp [gt, hj]

theorem BOwn.frozen {base g cap n : Nat} {w : World} {l : List Bool} (h : BOwn base w (.slice (some ⟨g, 0, none⟩) n cap) l) (j : Nat) : w.frozen? ⟨g, j, none⟩ = false := by
  have hn : n = l.length := by
    obtain ⟨_, ⟨h, _⟩ | ⟨_, _, _, h, _⟩⟩ := h <;> cases h; rfl
  subst hn
  exact World.ownsRow.frozenAt h j

theorem BOwn.store {base g cap n : Nat} {w : World} {l : List Bool} (h : BOwn base w (.slice (some ⟨g, 0, none⟩) n cap) l) (j : Nat) (x : Bool) :
    BOwn base (w.setCell ⟨g, j, none⟩ (.bool x)) (.slice (some ⟨g, 0, none⟩) n cap) (l.set j x) ∧ w.grownBy (w.setCell ⟨g, j, none⟩ (.bool x)) (some g) := by
  have hn : n = l.length := by
    obtain ⟨_, ⟨h, _⟩ | ⟨_, _, _, h, _⟩⟩ := h <;> cases h; rfl
  subst hn
  obtain ⟨h1, h2⟩ := World.ownsRow.stored h j (.bool x)
  refine ⟨?_, h2⟩
  show World.ownsRow _ _ _ _ _ _ _
  rw [List.length_set, List.map_set]; exact h1

theorem BOwn.ext0 {base : Nat} {w w' : World} {v : Value} {l : List Bool} (h : BOwn base w v l) (hg : Ext w w') : BOwn base w' v l :=
  h.kept hg (by cases hv : v.ownBlock <;> simp)

theorem BOwn.form {base : Nat} {w : World} {v : Value} {l : List Bool} (h : BOwn base w v l) (hl : 0 < l.length) : ∃ g cap, v = .slice (some ⟨g, 0, none⟩) l.length cap ∧ base ≤ g ∧ g < w.heap.size := by
  have hlt := h.lt
  obtain ⟨_, h | ⟨g, cap, cur, hv, hg, _⟩⟩ := h
  · omega
  · exact ⟨g, cap, hv, hg, (hlt g (by rw [hv]; rfl)).2⟩

theorem BOwn.keep {base g n cap r : Nat} {w w' : World} {l : List Bool} (h : BOwn base w (.slice (some ⟨g, 0, none⟩) n cap) l) (hg : w.grownBy w' (some r)) (hne : g ≠ r) : BOwn base w' (.slice (some ⟨g, 0, none⟩) n cap) l :=
  h.kept hg (.inr (fun e => hne (by cases e; rfl)))

theorem BOwn.weak {base base' : Nat} {w : World} {v : Value} {l : List Bool} (h : BOwn base w v l) (hb : base' ≤ base) : BOwn base' w v l := by
  obtain ⟨h1, h2⟩ := h
  refine ⟨h1, ?_⟩
  rcases h2 with h | ⟨g, cap, cur, hv, hg, r⟩
  · exact .inl h
  · exact .inr ⟨g, cap, cur, hv, Nat.le_trans hb hg, r⟩

/-- w' is reached from w by growth and at most one store into block g behind it -/
def Near (w : World) (g : Nat) (w' : World) : Prop := ∃ w1, Ext w w1 ∧ (w' = w1 ∨ ∃ j x, w' = w1.setCell ⟨g, j, none⟩ x)
theorem Near.of {w w' : World} {g : Nat} (h : Ext w w') : Near w g w' := ⟨w', h, .inl rfl⟩
theorem Near.store {w w' : World} {g j : Nat} {x : Value} (h : Ext w w') : Near w g (w'.setCell ⟨g, j, none⟩ x) := ⟨w', h, .inr ⟨j, x, rfl⟩⟩
theorem Near.cell {w w' : World} {g : Nat} (h : Near w g w') {a : Addr} {v : Value} (hc : w.cell? a = some v) (hne : a.block ≠ g) : w'.cell? a = some v := by
  obtain ⟨w1, h1, rfl | ⟨j, x, rfl⟩⟩ := h
  · exact h1.cell hc (by simp)
  · rw [World.cell?_setCell_far _ _ _ _ (by simpa using Ne.symm hne)]
    exact h1.cell hc (by simp)

end Go.Proofs.Ytljdneobfbimiaa

/- The reference's classes: spec.l18Code, l18Marks, l18Classes, ClassSizes. -/
namespace Go.Proofs.Ytljdneobfbimiaa
open Go.RowKit

open Classical in
/-- the code of the class functions: 1 no group, 3 too large, 0 -/
noncomputable def clsCode (P : Pr) (ok : Bool) : Int := if ok then (if ordP P > 128 then 3 else 0) else 1

open Classical in
set_option maxRecDepth 100000 in
set_option maxHeartbeats 4000000 in
theorem l18Code_ok (P : Pr) (w : World) (pv : Value) (Sp : Nat → Prop) (hpv : PresV Sp w pv P) :
    Calls Try.prog 25 #[pv] w (Ret w fun _ v => v = .int .i64 (clsCode P (rconsB P))) := by
  obtain ⟨vo, vp, vc, rfl, h3⟩ := hpv
  have hp0 := PresP.box h3 30
  have hg0 : Ext w (w.alloc (.cells #[vo, vp, vc] 30)) := World.grownBy_alloc _ _ _
  go_enter Try.func25, Try.ntmps25
  go_wp2_with fail
  refine Calls.mono (l08Group_ok P _ _ _ ⟨_, _, _, rfl, Pres3.ext h3 (World.grownBy_alloc _ _ _)⟩) ?_
  rintro eA wA ⟨vA, rfl, hgA, rfl⟩
  obtain ⟨vo5, vp5, vc5, _, _, hb1, hb2, hb3, h3r⟩ := (hp0.ext hgA).at
  simp at hb2 hb3
  cases hr : rconsB P with
  | false =>
    go_wp2
    exact bodyPost_ret (v := .int .i64 1) (by simp [results, Try.results25, go_sem]) rfl ⟨_, rfl, grown_trans hg0 hgA, by simp [clsCode, hr]⟩
  | true =>
    have hv : Valid P := by
      unfold rconsB at hr
      exact (of_decide_eq_true hr).1
    go_wp2_with fail
    refine Calls.mono (l10Order_ok _ _ P _ hv ⟨_, _, _, rfl, h3r⟩) ?_
    rintro eB wB ⟨vB, rfl, hgB, rfl⟩
    by_cases hb : ordP P > 128
    · have hb' : 128 < ordP P := hb
      go_wp2
      exact bodyPost_ret (v := .int .i64 3) (by simp [results, Try.results25, go_sem]) rfl ⟨_, rfl, grown_trans hg0 (grown_trans hgA hgB), by simp [clsCode, hr, hb']⟩
    · have hb' : ordP P ≤ 128 := by omega
      go_wp2
      exact bodyPost_ret (v := .int .i64 0) (by simp [results, Try.results25, go_sem]) rfl ⟨_, rfl, grown_trans hg0 (grown_trans hgA hgB), by simp [clsCode, hr]; omega⟩

/-- the marks of the class of X, after k elements -/
def marksTo (P : Pr) (X : List Int) : Nat → List Bool
  | 0 => List.replicate (ordP P).toNat false
  | k + 1 => (marksTo P X k).set (num P (rConj P X (elAt P (k : Int)))).toNat true
theorem marksTo_len (P : Pr) (X : List Int) (k : Nat) : (marksTo P X k).length = (ordP P).toNat := by
  induction k with
  | zero => simp [marksTo]
  | succ k ih => simp [marksTo, ih]

set_option maxRecDepth 100000 in
set_option maxHeartbeats 8000000 in
theorem l18Marks_ok (P : Pr) (hP : Valid P) (w : World) (pv x : Value) (X : List Int) (Sp Sx : Nat → Prop) (hpv : PresV Sp w pv P) (hx : Ints Sx w x X) (hX : Vec P.orders X) :
    Calls Try.prog 46 #[pv, x] w (Ret w fun w' v => BOwn w.heap.size w' v (marksTo P X (ordP P).toNat)) := by
  have h729 : ordP P ≤ 729 := hP.le729
  have hn6 := hP.n6
  have hpos := hP.ordP_pos
  obtain ⟨vo, vp, vc, rfl, h3⟩ := hpv
  have hp0 := PresP.box h3 30
  have hg0 : Ext w (w.alloc (.cells #[vo, vp, vc] 30)) := World.grownBy_alloc _ _ _
  go_enter Try.func46, Try.ntmps46
  go_wp2_with fail
  refine Calls.mono (l10Order_ok _ _ P _ hP ⟨_, _, _, rfl, Pres3.ext h3 (World.grownBy_alloc _ _ _)⟩) ?_
  rintro eO wO ⟨vO, rfl, hgO, rfl⟩
  have hgw : Ext w wO := grown_trans hg0 hgO
  go_wp2_with (at_make; refine wp_make_bools rfl _ _ rfl wO.heap.size (ordP P).toNat wO.heap.size rfl (ordP P) rfl rfl (by omega) (by omega) (Nat.le_refl _) ?_; intro wM hoM hgM hltM)
  have hpM := (hp0.ext hgO).ext hgM
  have hgwM := grown_trans hgw hgM
  have hxM := hx.ext hgwM
  have hpb : w.heap.size < wO.heap.size := by have := hgO.size; simp at this; omega
  obtain ⟨wm, hwm⟩ : ∃ wm : World, wm = wM := ⟨_, rfl⟩
  go_loopw [6] (fun kv wr => ∃ k : Nat, kv = .int .i64 k ∧ k ≤ (ordP P).toNat ∧ Ext wO wr ∧ BOwn wO.heap.size wr (.slice (some ⟨wO.heap.size, 0, none⟩) (ordP P).toNat (ordP P).toNat) (marksTo P X k)) (fun kv _ => (ordP P).toNat - (intOf kv).toNat)
  case atStart => exact ⟨0, rfl, by omega, hgM, hoM⟩
  case round =>
    clear hoM
    obtain ⟨k, rfl, hk, hgo, hO⟩ := hrel
    have hpr := (hp0.ext hgO).ext hgo
    have hxr := hx.ext (grown_trans hgw hgo)
    obtain ⟨vo5, vp5, vc5, _, _, hb1, hb2, hb3, h3r⟩ := hpr.at
    simp at hb2 hb3
    go_wp2_with fail
    refine Calls.mono (l10Order_ok _ _ P _ hP ⟨_, _, _, rfl, h3r⟩) ?_
    rintro eC wC ⟨vC, rfl, hgC, rfl⟩
    have hO2 := hO.ext0 hgC
    have hgoC := grown_trans hgo hgC
    by_cases hlt : k < (ordP P).toNat
    · have hlt' : (k : Int) < ordP P := by omega
      have hb1' := hgC.cell hb1 (by simp)
      have hb2' := hgC.cell hb2 (by simp)
      have hb3' := hgC.cell hb3 (by simp)
      have e1 : ∀ w', Near wC wO.heap.size w' → w'.cell? ⟨w.heap.size, 0, none⟩ = some vo5 := fun w' h => h.cell hb1' (by simp; omega)
      have e2 : ∀ w', Near wC wO.heap.size w' → w'.cell? ⟨w.heap.size, 1, none⟩ = some vp5 := fun w' h => h.cell hb2' (by simp; omega)
      have e3 : ∀ w', Near wC wO.heap.size w' → w'.cell? ⟨w.heap.size, 2, none⟩ = some vc5 := fun w' h => h.cell hb3' (by simp; omega)
      have hvE := elAt_vec hP (k : Int) (by omega)
      have hvC : Vec P.orders (rConj P X (elAt P (k : Int))) := rMul_vec hP _ _ (rInv_vec hP _ hvE) (rMul_vec hP _ _ hX hvE)
      have hnb := num_bd hP hvC
      have n0 : 0 ≤ num P (rConj P X (elAt P (k : Int))) := hnb.1
      have n1 : num P (rConj P X (elAt P (k : Int))) < max (ordP P) 0 := by omega
      have HV := Lib.hid (And.intro hvE hvC); clear hvE hvC hnb
      have h3C := Pres3.ext h3r hgC
      have hxC := hxr.ext hgC
      clear hb1 hb2 hb3 hb1' hb2' hb3'
      have hle := HV.out.1.1
      have hlc := HV.out.2.1
      have HL := Lib.hid (And.intro hle hlc); clear hle hlc
      have hcel := hO2.cell (num P (rConj P X (elAt P (k : Int)))).toNat (by rw [marksTo_len]; omega)
      have hfr := hO2.frozen (num P (rConj P X (elAt P (k : Int)))).toNat
      go_wp2
      go_region_held3 (fun w' => Near wC wO.heap.size w') (first | exact Near.of (grown_drew _ _) | exact Near.of (by assumption) | exact Near.store (by assumption) | assumption)
        (first
          | (go_at_call 34; refine Calls.mono (Calls.rel (w0 := wC) (by first | exact grown_drew _ _ | assumption) (l10At_ok P hP _ _ _ Any ⟨_, _, _, rfl, Pres3.ext h3C (by first | exact grown_drew _ _ | assumption)⟩ (by omega) (by omega))) ?_; rintro eE wE ⟨vE, rfl, hgE, hsE, hOE⟩; have hEi := hOE.ints (by rw [HL.out.1]; omega))
          | (go_at_call 63; refine Calls.mono (Calls.rel (w0 := wC) (by assumption) (l10Conj_ok P hP _ _ _ _ _ _ Any Sx Any ⟨_, _, _, rfl, Pres3.ext h3C (by assumption)⟩ (Ints.ext hxC (by assumption)) hEi hX HV.out.1)) ?_; rintro eF wF ⟨vF, rfl, hgF, hsF, hOF⟩; have hFi := hOF.ints (by rw [HL.out.2]; omega))
          | (go_at_call 38; refine Calls.mono (Calls.rel (w0 := wC) (by assumption) (l10Number_ok P hP _ _ _ _ Any Any ⟨_, _, _, rfl, Pres3.ext h3C (by assumption)⟩ hFi HV.out.2)) ?_; rintro eG wG ⟨vG, rfl, hgG, hsG, rfl⟩; have hcel2 := hgG.cell hcel (by simp); have hfr2 := (hO2.ext0 hgG).frozen (num P (rConj P X (elAt P (k : Int)))).toNat))
      clear e1 e2 e3
      obtain ⟨hO3, hgs⟩ := (hO2.ext0 hgG).store (num P (rConj P X (elAt P (k : Int)))).toNat true
      have hgn : Ext wO (wG.setCell ⟨wO.heap.size, (num P (rConj P X (elAt P (k : Int)))).toNat, none⟩ (.bool true)) := grown_own (grown_trans hgoC hgG) hgs (fun j hj hlt => by cases hj; omega)
      clear hcel hcel2 hfr hfr2 hgs
      go_wp2
      go_roundw
      case rel => exact ⟨k + 1, by go_num, by omega, hgn, hO3⟩
      case measure => simp [intOf]; omega
    · have hke : k = (ordP P).toNat := by omega
      have hlt' : ordP P ≤ (k : Int) := by omega
      subst hke
      go_wp2
      exact bodyPost_ret (v := .slice (some ⟨wO.heap.size, 0, none⟩) (ordP P).toNat (ordP P).toNat) (by simp [results, Try.results46, go_sem]) rfl ⟨_, rfl, grown_trans hgw hgoC, hO2.weak hgw.size⟩

/-! ### the classes -/
def fillTo (N : Nat) : Nat → List Int
  | 0 => List.replicate N 0
  | j + 1 => (fillTo N j).set j (-1)
theorem fillTo_len (N j : Nat) : (fillTo N j).length = N := by
  induction j with
  | zero => simp [fillTo]
  | succ j ih => simp [fillTo, ih]

/-- the first j elements, where marked, painted with c -/
def paint (m : List Bool) (c : Int) (L : List Int) : Nat → List Int
  | 0 => L
  | j + 1 => if gt m j = true then (paint m c L j).set j c else paint m c L j
theorem paint_len (m : List Bool) (c : Int) (L : List Int) (j : Nat) : (paint m c L j).length = L.length := by
  induction j with
  | zero => rfl
  | succ j ih => simp only [paint]; split <;> simp [ih]

/-- the reference's numbering of the elements by classes, after k elements, and how many classes -/
def clsTo (P : Pr) : Nat → List Int × Nat
  | 0 => (fillTo (ordP P).toNat (ordP P).toNat, 0)
  | k + 1 => if 0 ≤ gt (clsTo P k).1 k then clsTo P k else (paint (marksTo P (elAt P (k : Int)) (ordP P).toNat) (clsTo P k).2 (clsTo P k).1 (ordP P).toNat, (clsTo P k).2 + 1)
theorem clsTo_len (P : Pr) (k : Nat) : (clsTo P k).1.length = (ordP P).toNat := by
  induction k with
  | zero => simp [clsTo, fillTo_len]
  | succ k ih => simp only [clsTo]; split <;> simp [paint_len, ih]
theorem clsTo_num (P : Pr) (k : Nat) : (clsTo P k).2 ≤ k := by
  induction k with
  | zero => simp [clsTo]
  | succ k ih =>
    simp only [clsTo]; split
    · omega
    · show _ + 1 ≤ _; omega
def rCls (P : Pr) : List Int × Nat := clsTo P (ordP P).toNat

set_option maxRecDepth 100000 in
set_option maxHeartbeats 8000000 in
theorem l18Classes_ok (P : Pr) (hP : Valid P) (w : World) (pv : Value) (Sp : Nat → Prop) (hpv : PresV Sp w pv P) :
    Calls Try.prog 26 #[pv] w (Ret w fun w' v => ∃ r, v = .tuple #[r, .int .i64 ((rCls P).2 : Nat)] ∧ Own w.heap.size w' r (rCls P).1) := by
  have h729 : ordP P ≤ 729 := hP.le729
  have hn6 := hP.n6
  have hpos := hP.ordP_pos
  obtain ⟨vo, vp, vc, rfl, h3⟩ := hpv
  have hp0 := PresP.box h3 30
  have hg0 : Ext w (w.alloc (.cells #[vo, vp, vc] 30)) := World.grownBy_alloc _ _ _
  go_enter Try.func26, Try.ntmps26
  go_wp2_with fail
  refine Calls.mono (l10Order_ok _ _ P _ hP ⟨_, _, _, rfl, Pres3.ext h3 (World.grownBy_alloc _ _ _)⟩) ?_
  rintro eO wO ⟨vO, rfl, hgO, rfl⟩
  have hgw : Ext w wO := grown_trans hg0 hgO
  have hpO := hp0.ext hgO
  clear hp0
  go_wp2_with (at_make; refine wp_make_ints rfl _ _ rfl wO.heap.size (ordP P).toNat wO.heap.size rfl (ordP P) rfl rfl (by omega) (by omega) (Nat.le_refl _) ?_; intro wM hoM hgM hltM)
  have hpb : w.heap.size < wO.heap.size := by have := hgO.size; simp at this; omega
  have hN : (ordP P).toNat ≤ 729 ∧ 1 ≤ (ordP P).toNat ∧ (ordP P).toNat ≤ 729 := by omega
  have hNE : ordP P = ((ordP P).toNat : Nat) := by omega
  have HNE := Lib.hid hNE; clear hNE
  generalize hNN : (ordP P).toNat = N at *
  have HNN := Lib.hid hNN; clear hNN
  go_loopw [5] (fun kv wr => ∃ j : Nat, kv = .int .i64 j ∧ j ≤ N ∧ Ext wO wr ∧ Own wO.heap.size wr (.slice (some ⟨wO.heap.size, 0, none⟩) N N) (fillTo N j)) (fun kv _ => N - (intOf kv).toNat)
  case atStart => exact ⟨0, rfl, by omega, hgM, hoM⟩
  case round =>
    clear hoM hgM
    obtain ⟨j, rfl, hj, hgo, hO⟩ := hrel
    by_cases hlt : j < N
    · have hc := hO.cell j (by rw [fillTo_len]; omega)
      have hf := hO.frozen j
      obtain ⟨hO3, hgs⟩ := hO.store j (-1)
      have hgn : Ext wO (wr.setCell ⟨wO.heap.size, j, none⟩ (.int .i64 (-1))) := grown_own hgo hgs (fun j hj hlt => by cases hj; omega)
      go_wp2
      clear hc hf hgs
      go_roundw
      case rel => exact ⟨j + 1, by go_num, by omega, hgn, hO3⟩
      case measure => simp [intOf]; omega
    · have hje : j = N := by omega
      subst hje
      go_wp2
      clear hlt hj
      go_loopw [6, 7] (fun cv kv wr => ∃ k : Nat, kv = .int .i64 k ∧ cv = .int .i64 ((clsTo P k).2 : Nat) ∧ k ≤ j ∧ Ext wO wr ∧ Own wO.heap.size wr (.slice (some ⟨wO.heap.size, 0, none⟩) j j) (clsTo P k).1) (fun _ kv _ => j - (intOf kv).toNat)
      case atStart => exact ⟨0, rfl, rfl, by omega, hgo, by simp only [clsTo]; rw [HNN.out]; exact hO⟩
      case round =>
        clear hO hgo
        obtain ⟨k, rfl, rfl, hk, hgo, hO⟩ := hrel
        have hcn := clsTo_num P k
        by_cases hlt : k < j
        · have hc := hO.cell k (by rw [clsTo_len, HNN.out]; omega)
          by_cases hge : 0 ≤ gt (clsTo P k).1 k
          · have hsucc : clsTo P (k + 1) = clsTo P k := by simp only [clsTo]; rw [if_pos hge]
            have HS := Lib.hid hsucc; clear hsucc
            go_wp2
            go_roundw
            case rel => exact ⟨k + 1, by go_num, by rw [HS.out], by omega, hgo, by rw [HS.out]; exact hO⟩
            case measure => simp [intOf]; omega
          · have hlt0 : gt (clsTo P k).1 k < 0 := by omega
            have hsucc : clsTo P (k + 1) = (paint (marksTo P (elAt P (k : Int)) j) (clsTo P k).2 (clsTo P k).1 j, (clsTo P k).2 + 1) := by simp only [clsTo]; rw [if_neg hge, HNN.out]
            have HS := Lib.hid hsucc; clear hsucc hge
            obtain ⟨vo5, vp5, vc5, _, _, hb1, hb2, hb3, h3r⟩ := (hpO.ext hgo).at
            simp at hb2 hb3
            have e1 : ∀ w', Ext wr w' → w'.cell? ⟨w.heap.size, 0, none⟩ = some vo5 := fun w' h => h.cell hb1 (by simp)
            have e2 : ∀ w', Ext wr w' → w'.cell? ⟨w.heap.size, 1, none⟩ = some vp5 := fun w' h => h.cell hb2 (by simp)
            have e3 : ∀ w', Ext wr w' → w'.cell? ⟨w.heap.size, 2, none⟩ = some vc5 := fun w' h => h.cell hb3 (by simp)
            have hvE := elAt_vec hP (k : Int) (by omega)
            have HV := Lib.hid hvE; clear hvE
            clear hb1 hb2 hb3
            go_wp2
            clear hc
            go_region_held3 (fun w' => Ext wr w') (first | exact grown_drew _ _ | assumption)
              (first
                | (go_at_call 34; refine Calls.mono (Calls.rel (w0 := wr) (by assumption) (l10At_ok P hP _ _ _ Any ⟨_, _, _, rfl, Pres3.ext h3r (by assumption)⟩ (by omega) (by omega))) ?_; rintro eE wE ⟨vE, rfl, hgE, hsE, hOE⟩; have hEi := hOE.ints (by rw [HV.out.1]; omega))
                | (go_at_call 46; refine Calls.mono (Calls.rel (w0 := wr) (by assumption) (l18Marks_ok P hP _ _ _ _ Any Any ⟨_, _, _, rfl, Pres3.ext h3r (by assumption)⟩ hEi HV.out)) ?_; rintro eG wG ⟨vG, rfl, hgG, hsG, hOG⟩; have hOL := hO.ext0 hgG))
            have hwr : wO.heap.size < wr.heap.size := by
              obtain ⟨g, cap, hv, _, hg⟩ := hO.form (by rw [clsTo_len, HNN.out]; omega)
              cases hv; exact hg
            clear e1 e2 e3 hOE hEi hO h3r
            rw [HNN.out] at hOG
            have hml : (marksTo P (elAt P (k : Int)) j).length = j := by rw [marksTo_len, HNN.out]
            have hll : (clsTo P k).1.length = j := by rw [clsTo_len, HNN.out]
            obtain ⟨g2, cap2, rfl, hg2, hg2'⟩ := hOG.form (by rw [hml]; omega)
            rw [hml] at hOG
            simp only [hml]
            have hgoG := grown_trans hgo hgG
            have hwE : wO.heap.size < g2 := by have := hgE.size; omega
            have HML := Lib.hid (And.intro hml hll); clear hml hll
            go_wp2
            obtain ⟨wo, rfl⟩ : ∃ wo : World, wo = wG := ⟨_, rfl⟩
            generalize hMM : marksTo P (elAt P (k : Int)) j = M at *
            have HMM := Lib.hid hMM; clear hMM
            go_loopw [9] (fun iv wr => ∃ i : Nat, iv = .int .i64 i ∧ i ≤ j ∧ wo.grownBy wr (some wO.heap.size) ∧ Ext wO wr ∧ Own wO.heap.size wr (.slice (some ⟨wO.heap.size, 0, none⟩) j j) (paint M (clsTo P k).2 (clsTo P k).1 i)) (fun iv _ => j - (intOf iv).toNat)
            case atStart => exact ⟨0, rfl, by omega, grown_refl _ _, hgoG, hOL⟩
            case round =>
              clear hgo hgoG hOL hgG hgE
              obtain ⟨i, rfl, hi, hgi, hgo, hO⟩ := hrel
              by_cases hlt2 : i < j
              · have hmc := (hOG.keep hgi (by omega)).cell i (by rw [HML.out.1]; omega)
                have hcc := hO.cell i (by rw [paint_len, HML.out.2]; omega)
                have hf := hO.frozen i
                have hii : (i : Int) < j := by omega
                cases hq : gt M i with
                | true =>
                  rw [hq] at hmc
                  have hsucc : paint M (clsTo P k).2 (clsTo P k).1 (i + 1) = (paint M (clsTo P k).2 (clsTo P k).1 i).set i (clsTo P k).2 := by simp only [paint]; rw [if_pos hq]
                  have HS2 := Lib.hid hsucc; clear hsucc hq
                  obtain ⟨hO3, hgs⟩ := hO.store i ((clsTo P k).2 : Nat)
                  have hgn : Ext wO (wr.setCell ⟨wO.heap.size, i, none⟩ (.int .i64 ((clsTo P k).2 : Nat))) := grown_own hgo hgs (fun j hj hlt => by cases hj; omega)
                  have hgn2 := hgi.trans hgs
                  go_wp2
                  clear hmc hcc hf
                  go_roundw
                  case rel => exact ⟨i + 1, by go_num, by omega, hgn2, hgn, by rw [HS2.out]; exact hO3⟩
                  case measure => simp [intOf]; omega
                | false =>
                  rw [hq] at hmc
                  have hsucc : paint M (clsTo P k).2 (clsTo P k).1 (i + 1) = paint M (clsTo P k).2 (clsTo P k).1 i := by simp only [paint]; rw [if_neg (by rw [hq]; simp)]
                  have HS2 := Lib.hid hsucc; clear hsucc hq
                  go_wp2
                  clear hmc hcc hf
                  go_roundw
                  case rel => exact ⟨i + 1, by go_num, by omega, hgi, hgo, by rw [HS2.out]; exact hO⟩
                  case measure => simp [intOf]; omega
              · have hie : i = j := by omega
                subst hie
                go_wp2
                go_roundw
                case rel => exact ⟨k + 1, by go_num, by rw [HS.out]; go_num, by omega, hgo, by rw [HS.out]; exact hO⟩
                case measure => simp [intOf]; omega
        · have hke : k = j := by omega
          subst hke
          go_wp2
          refine bodyPost_ret (v := .tuple #[.slice (some ⟨wO.heap.size, 0, none⟩) k k, .int .i64 ((clsTo P k).2 : Nat)]) (by simp [results, Try.results26, go_sem]) rfl ⟨_, rfl, grown_trans hgw hgo, _, by unfold rCls; rw [HNN.out], by unfold rCls; rw [HNN.out]; exact hO.weak hgw.size⟩

/-- how often each number below c stands among the first k of L -/
def cntTo (L : List Int) (c : Nat) : Nat → List Int
  | 0 => List.replicate c 0
  | k + 1 => (cntTo L c k).set (gt L k).toNat (gt (cntTo L c k) (gt L k).toNat + 1)
theorem cntTo_len (L : List Int) (c k : Nat) : (cntTo L c k).length = c := by
  induction k with
  | zero => simp [cntTo]
  | succ k ih => simp [cntTo, ih]
theorem gt_set {α : Type} [Inhabited α] (l : List α) (i j : Nat) (x : α) (hj : j < l.length) : gt (l.set i x) j = if i = j then x else gt l j := by
  simp only [gt, List.getD_eq_getElem?_getD]
  rw [List.getElem?_set]
  by_cases h : i = j
  · subst h; simp [hj]
  · simp [h]
theorem cntTo_bd (L : List Int) (c k : Nat) : ∀ j, j < c → 0 ≤ gt (cntTo L c k) j ∧ gt (cntTo L c k) j ≤ k := by
  induction k with
  | zero => intro j hj; simp [cntTo, gt, hj]
  | succ k ih =>
    intro j hj
    simp only [cntTo]
    rw [gt_set _ _ _ _ (by rw [cntTo_len]; exact hj)]
    have := ih j hj
    split
    · rename_i h; subst h; omega
    · omega
def rSizes (P : Pr) : List Int := cntTo (rCls P).1 (rCls P).2 (ordP P).toNat

end Go.Proofs.Ytljdneobfbimiaa

/- The orbit that impl.classOf collects. Plain. -/
namespace Go.Proofs.Ytljdneobfbimiaa
open Go.RowKit

theorem nodup_len : ∀ (N : Nat) (l : List Int), l.Nodup → (∀ x ∈ l, 0 ≤ x ∧ x < (N : Int)) → l.length ≤ N := by
  intro N
  induction N with
  | zero =>
    intro l _ h
    cases l with
    | nil => simp
    | cons a l => have := h a (by simp); omega
  | succ N ih =>
    intro l hn h
    by_cases hm : (N : Int) ∈ l
    · have h1 := ih (l.erase (N : Int)) (hn.erase _) (fun x hx => by
        have h2 := (hn.mem_erase_iff).1 hx
        have h3 := h x h2.2
        have := h2.1
        omega)
      rw [List.length_erase_of_mem hm] at h1
      omega
    · have h1 := ih l hn (fun x hx => by
        have h3 := h x hx
        have : x ≠ (N : Int) := fun e => hm (e ▸ hx)
        omega)
      omega

/-- z is put to L unless its number stands there -/
def addZ (P : Pr) (L : List (List Int)) (z : List Int) : List (List Int) := if num P z ∈ L.map (num P) then L else L ++ [z]
/-- the first g generators brought to bear on y -/
def orbIn (P : Pr) (y : List Int) (L : List (List Int)) : Nat → List (List Int)
  | 0 => L
  | g + 1 => addZ P (orbIn P y L g) (iConj P y (unitV P.orders.length g))
def orbTo (P : Pr) : Nat → Nat → List (List Int) → List (List Int)
  | 0, _, L => L
  | f + 1, i, L => if i < L.length then orbTo P f (i + 1) (orbIn P (gt L i) L P.orders.length) else L
def orb (P : Pr) (x : List Int) : List (List Int) := orbTo P ((ordP P).toNat + 1) 0 [x]

/-- a list of exponent vectors with different numbers -/
structure OrbI (P : Pr) (L : List (List Int)) : Prop where
  vec : ∀ y ∈ L, Vec P.orders y
  nd : (L.map (num P)).Nodup

theorem OrbI.len {P : Pr} (hP : Valid P) {L : List (List Int)} (h : OrbI P L) : L.length ≤ (ordP P).toNat := by
  have h1 := nodup_len (ordP P).toNat (L.map (num P)) h.nd (fun x hx => by
    obtain ⟨y, hy, rfl⟩ := List.mem_map.1 hx
    have := num_bd hP (h.vec y hy)
    omega)
  simpa using h1

theorem OrbI.add {P : Pr} {L : List (List Int)} (h : OrbI P L) {z : List Int} (hz : Vec P.orders z) : OrbI P (addZ P L z) := by
  unfold addZ
  by_cases hm : num P z ∈ L.map (num P)
  · rw [if_pos hm]; exact h
  · rw [if_neg hm]
    refine ⟨fun y hy => ?_, ?_⟩
    · rcases List.mem_append.1 hy with h1 | h1
      · exact h.vec y h1
      · rw [List.mem_singleton.1 h1]; exact hz
    · rw [List.map_append, List.nodup_append]
      refine ⟨h.nd, by simp, ?_⟩
      intro a ha b hb e
      simp at hb
      subst e hb
      exact hm ha

theorem OrbI.single {P : Pr} {x : List Int} (hx : Vec P.orders x) : OrbI P [x] := ⟨fun y hy => by rw [List.mem_singleton.1 hy]; exact hx, by simp⟩

theorem addZ_pre (P : Pr) (L : List (List Int)) (z : List Int) : ∃ M, addZ P L z = L ++ M := by
  unfold addZ; split
  · exact ⟨[], by simp⟩
  · exact ⟨[z], rfl⟩
theorem orbIn_pre (P : Pr) (y : List Int) (L : List (List Int)) (g : Nat) : ∃ M, orbIn P y L g = L ++ M := by
  induction g with
  | zero => exact ⟨[], by simp [orbIn]⟩
  | succ g ih =>
    obtain ⟨M, hM⟩ := ih
    obtain ⟨M2, h2⟩ := addZ_pre P (orbIn P y L g) (iConj P y (unitV P.orders.length g))
    exact ⟨M ++ M2, by simp only [orbIn]; rw [h2, hM, List.append_assoc]⟩
theorem OrbI.inn {P : Pr} (hP : Valid P) {L : List (List Int)} (h : OrbI P L) {y : List Int} (hy : Vec P.orders y) (g : Nat) : OrbI P (orbIn P y L g) := by
  induction g with
  | zero => exact h
  | succ g ih => exact ih.add (iConj_vec hP _ _ hy (unitV_vec hP g))

end Go.Proofs.Ytljdneobfbimiaa

/- impl.classOf: the class of an element, sorted. -/
namespace Go.Proofs.Ytljdneobfbimiaa
open Go.Proofs Go.RowKit

/-- a slice of one element, laid by a literal -/
theorem SlO.lit {α : Type} [Inhabited α] {El : (Nat → Prop) → World → Value → α → Prop} (hEl : RdOk El) {E B : Nat} {w : World} {u : Value} {y : α} (hu : El (From B) w u y) (hB : B ≤ w.heap.size) :
    SlO El E B (w.alloc (.cells #[u] E)) (.slice (some ⟨w.heap.size, 0, none⟩) 1 1) [y] := by
  have hg : Ext w (w.alloc (.cells #[u] E)) := World.grownBy_alloc _ _ _
  refine ⟨[u], fun _ k => B ≤ k ∧ k < w.heap.size, rfl, World.ownsRow_lit w #[u] 1 hB (by decide) rfl, ?_, ?_, ?_⟩
  · intro i k _ hk
    refine ⟨hk.1, fun h => ?_, ?_⟩
    · have : w.heap.size = k := Option.some.inj h
      omega
    · have := hg.size; omega
  · intro i j k hi hj _ _
    simp at hi hj; omega
  · intro i hi
    have : i = 0 := by simpa using hi
    subst this
    exact hEl.mono hu (fun k hk hlt => ⟨⟨hk, hlt⟩, Nat.lt_of_lt_of_le hlt hg.size, hg.block k hlt (by simp)⟩)

theorem num_wf {P : Pr} (hP : Valid P) {x : List Int} (hx : Vec P.orders x) : (Lit.int .i64 (num P x)).wf = true := by
  have h1 := num_bd hP hx
  have h2 : ordP P ≤ 729 := hP.le729
  have e1 : IntKind.i64.min = -9223372036854775808 := by decide
  have e2 : IntKind.i64.max = 9223372036854775807 := by decide
  simp [Lit.wf]
  omega

theorem run_makeSeen (w : World) : (Instr.makeMap 79 none).run Try.prog w = .ok (.map (some w.heap.size)) (w.alloc (.map #[] 0)) := by kernel_rfl

set_option maxRecDepth 100000 in
set_option maxHeartbeats 8000000 in
theorem classOf_ok (P : Pr) (hP : Valid P) (w : World) (p x : Value) (X : List Int) (Sp Sx : Nat → Prop) (hp : PresP Sp w p P) (hx : Ints Sx w x X) (hX : Vec P.orders X) :
    Calls Try.prog 49 #[p, x] w (Ret w fun w' v => RowsO w.heap.size w' v (sortL (orb P X))) := by
  have h729 : ordP P ≤ 729 := hP.le729
  have hn6 := hP.n6
  have hpos := hP.ordP_pos
  obtain ⟨pb, po, rfl, _⟩ := hp.shape
  have hlX : X.length ≤ P.orders.length ∧ P.orders.length ≤ X.length := by rw [hX.1]; omega
  go_enter Try.func49, Try.ntmps49
  go_wp2_with fail
  refine Calls.mono (clone_ok w x X _ hx (by omega)) ?_
  rintro e1 w1 ⟨r, rfl, hg1, hO1⟩
  have hr1 : OwnIn (From w.heap.size) w1 r X := OwnIn.of hO1 (by omega) (fun j hj _ => hj)
  obtain ⟨ar, capr, rfl, _, _⟩ := hr1.ints.shape
  have hL1 : RowsO w.heap.size (w1.alloc (.cells #[.slice ar X.length capr] 22)) (.slice (some ⟨w1.heap.size, 0, none⟩) 1 1) [X] := SlO.lit rdOwn hr1 hg1.size
  have hg2 : Ext w (w1.alloc (.cells #[.slice ar X.length capr] 22)) := grown_trans hg1 (World.grownBy_alloc _ _ _)
  have hL2 := (SlO.avoid (A := fun k => k = w1.heap.size + 1) hL1 (by intro k hk; simp; omega)).ext rdOwn (World.grownBy_alloc (w1.alloc (.cells #[.slice ar X.length capr] 22)) (.map #[] 0) none)
  have hS2 := Seen.made (w1.alloc (.cells #[.slice ar X.length capr] 22))
  have hg3 : Ext w ((w1.alloc (.cells #[.slice ar X.length capr] 22)).alloc (.map #[] 0)) := grown_trans hg2 (World.grownBy_alloc _ _ _)
  have hmk := run_makeSeen (w1.alloc (.cells #[.slice ar X.length capr] 22))
  go_wp2_with fail
  have hsz : (w1.alloc (.cells #[.slice ar X.length capr] 22)).heap.size = w1.heap.size + 1 := by simp
  rw [hsz] at hS2
  clear hmk
  generalize (w1.alloc (.cells #[.slice ar X.length capr] 22)).alloc (.map #[] 0) = w2 at *
  refine Calls.mono (numberOf_ok P hP w2 _ _ X _ _ (hp.ext hg3) (hx.ext hg3) hX) ?_
  rintro e3 w3 ⟨rfl, rfl⟩
  obtain ⟨w4, hrun, hS4, hg4⟩ := hS2.update (num P X) (num_wf hP hX) (by simp)
  have hw2 : w1.heap.size + 1 < w2.heap.size := hS2.lt
  have hgw4 : Ext w w4 := grown_own hg3 hg4 (fun j hj hlt => by cases hj; have := hg1.size; omega)
  have hL4 := hL2.kept rdOwn hg4 rfl
  clear hsz hL1 hL2 hS2 hg2 hO1 hr1
  go_wp2
  clear hrun
  have hmw : w1.heap.size + 1 < w4.heap.size := hS4.lt
  have hmB : w.heap.size ≤ w1.heap.size + 1 := by have := hg1.size; omega
  clear hg1 hg3 hg4 hw2
  generalize w1.heap.size + 1 = mb at *
  have HO := Lib.hid (show orbTo P ((ordP P).toNat + 1) 0 [X] = orb P X from rfl)
  generalize w1.heap.size = b1 at *
  go_loopw [5, 7] (fun v iv wr => ∃ (i f : Nat) (L : List (List Int)), iv = .int .i64 i ∧ i ≤ L.length ∧ 1 ≤ L.length ∧ f + i = (ordP P).toNat + 1 ∧ Ext w wr ∧ SlOA OwnIn 22 w.heap.size (fun k => k = mb) wr v L ∧ Seen wr mb (L.map (num P)) ∧ OrbI P L ∧ orbTo P f i L = orb P X) (fun _ iv _ => (ordP P).toNat - (intOf iv).toNat)
  case atStart => exact ⟨0, (ordP P).toNat + 1, [X], rfl, by simp, by simp, by omega, hgw4, hL4, hS4, OrbI.single hX, HO.out⟩
  case round =>
    clear hL4 hS4 hgw4 hmw
    obtain ⟨i, f, L, rfl, hiL, hL1, hfi, hg, hL, hS, hI, horb⟩ := hrel
    have HORB := Lib.hid horb; clear horb
    have hLn := hI.len hP
    have HI := Lib.hid hI; clear hI
    have hLd := RowsD.rows (hL.o.toD (by omega))
    obtain ⟨aL, capL, rfl, _, _⟩ := Sl.shape hLd
    have hmw : mb < wr.heap.size := hS.lt
    by_cases hlt : i < L.length
    · go_wp2_with fail
      refine Calls.mono (generators_ok P hP wr _ Sp (hp.ext hg)) ?_
      rintro eg wg ⟨gv, rfl, hgg, hG⟩
      have hgl : (gensOf P.orders.length).length = P.orders.length := by simp [gensOf]
      have hGd : Rows2 (fun k => wr.heap.size ≤ k ∧ k < wg.heap.size) wg gv (gensOf P.orders.length) := RowsD.rows (SlD.mono rdOwn (hG.toD (by rw [hgl]; omega)) (fun k hk hlt => ⟨⟨hk, hlt⟩, hlt, rfl⟩))
      obtain ⟨ag, capg, rfl, _, _⟩ := Sl.shape hGd
      clear hG
      have hLg := (hL.more (A' := fun k => k = mb ∨ (wr.heap.size ≤ k ∧ k < wg.heap.size)) (fun k hk => hk.imp id (fun h => h.1))).ext rdOwn hgg
      have hSg := hS.kept hgg (by simp)
      have hgwg := grown_trans hg hgg
      clear hL hS
      rw [hgl] at hGd
      have HGL := Lib.hid hgl
      simp only [hgl]
      clear hgl
      go_wp2
      obtain ⟨wo, hwo⟩ : ∃ wo : World, wo = wr := ⟨_, rfl⟩
      have hwos : wo.heap.size = wr.heap.size := by rw [hwo]
      rw [← hwos] at hGd hLg hmw
      clear hwos
      have hYv : Vec P.orders (gt L i) := HI.out.vec _ (gt_mem hlt)
      have HY := Lib.hid hYv; clear hYv
      go_loopw [5, 29] (fun v jv w' => ∃ g : Nat, jv = .int .i64 g ∧ g ≤ P.orders.length ∧ Ext w w' ∧ SlOA OwnIn 22 w.heap.size (fun k => k = mb ∨ (wo.heap.size ≤ k ∧ k < wg.heap.size)) w' v (orbIn P (gt L i) L g) ∧ Seen w' mb ((orbIn P (gt L i) L g).map (num P)) ∧
        (∀ k, wo.heap.size ≤ k → k < wg.heap.size → k < w'.heap.size ∧ w'.heap[k]? = wg.heap[k]?)) (fun _ jv _ => P.orders.length - (intOf jv).toNat)
      case atStart => exact ⟨0, rfl, by omega, hgwg, hLg, hSg, fun k h1 h2 => ⟨h2, rfl⟩⟩
      case round =>
        clear hLg hSg hgwg hgg hLd hg
        obtain ⟨g, rfl, hgn, hg, hL, hS, hkeep⟩ := hrel
        have hII := HI.out.inn hP HY.out g
        have hMn := hII.len hP
        have HII := Lib.hid hII; clear hII
        have hpre := orbIn_pre P (gt L i) L g
        have HPRE := Lib.hid hpre; clear hpre
        have HKEEP := Lib.hid hkeep; clear hkeep
        by_cases hltg : g < P.orders.length
        · have hGw := Rows2.mono (S' := Any) hGd (fun k hk _ => ⟨trivial, HKEEP.out k hk.1 hk.2⟩)
          obtain ⟨bg, og, ag2, capg2, rfl, _, _, hcg, hig⟩ := Rows2.at hGw g (by rw [HGL.out]; omega)
          have hgg : gt (gensOf P.orders.length) g = unitV P.orders.length g := by simp [gensOf, gt, hltg]
          rw [hgg] at hcg hig
          obtain ⟨M2, hM2⟩ := HPRE.out
          have hiM : i < (orbIn P (gt L i) L g).length := by rw [hM2]; simp; omega
          have hgi : gt (orbIn P (gt L i) L g) i = gt L i := by rw [hM2]; exact gt_append_left _ _ _ hlt
          have hMd := RowsD.rows (hL.o.toD (by omega))
          obtain ⟨aM, capM, rfl, _, _⟩ := Sl.shape hMd
          obtain ⟨bm, om, am2, capm2, rfl, _, _, hcm, him⟩ := Rows2.at hMd i hiM
          rw [hgi] at hcm him
          have hiM' : (i : Int) < (orbIn P (gt L i) L g).length := by omega
          clear hM2 hGw hMd hgi
          have hgn' : (g : Int) < P.orders.length := by omega
          have hvz := iConj_vec hP _ _ HY.out (unitV_vec hP g)
          have HZ := Lib.hid hvz; clear hvz
          go_wp2_with fail
          refine Calls.mono (conjugate_ok P hP wr _ _ _ _ _ _ _ _ (hp.ext hg) him hig HY.out (unitV_vec hP g)) ?_
          rintro ez wz ⟨zv, rfl, hgz, hOz⟩
          have hzo : OwnIn (From wr.heap.size) wz zv _ := OwnIn.of hOz (by rw [HZ.out.1]; omega) (fun j hj _ => hj)
          have hz := hzo.ints
          obtain ⟨az, capz, rfl, _, _⟩ := hz.shape
          go_wp2_with fail
          refine Calls.mono (numberOf_ok P hP wz _ _ _ _ _ (hp.ext (grown_trans hg hgz)) hz HZ.out) ?_
          rintro en wn ⟨rfl, rfl⟩
          have hSz := hS.kept hgz (by simp)
          have hlook := hSz.look (num P (iConj P (gt L i) (unitV P.orders.length g))) (num_wf hP HZ.out)
          have hsucc : orbIn P (gt L i) L (g + 1) = addZ P (orbIn P (gt L i) L g) (iConj P (gt L i) (unitV P.orders.length g)) := rfl
          have HS := Lib.hid hsucc; clear hsucc
          have hgwz := grown_trans hg hgz
          have hkz : ∀ k, wo.heap.size ≤ k → k < wg.heap.size → k < wz.heap.size ∧ wz.heap[k]? = wg.heap[k]? := fun k h1 h2 => by
            obtain ⟨h3, h4⟩ := HKEEP.out k h1 h2
            exact ⟨Nat.lt_of_lt_of_le h3 hgz.size, (hgz.block k h3 (by simp)).trans h4⟩
          have HKZ := Lib.hid hkz; clear hkz
          by_cases hin : num P (iConj P (gt L i) (unitV P.orders.length g)) ∈ (orbIn P (gt L i) L g).map (num P)
          · rw [decide_eq_true hin] at hlook
            have hadd : orbIn P (gt L i) L (g + 1) = orbIn P (gt L i) L g := by rw [HS.out, addZ, if_pos hin]
            have HA := Lib.hid hadd; clear hadd hin
            go_wp2
            clear hlook
            have hLz := hL.ext rdOwn hgz
            go_roundw
            case rel => exact ⟨g + 1, by go_num, by omega, hgwz, by rw [HA.out]; exact hLz, by rw [HA.out]; exact hSz, HKZ.out⟩
            case measure => simp [intOf]; omega
          · rw [decide_eq_false hin] at hlook
            have hadd : orbIn P (gt L i) L (g + 1) = orbIn P (gt L i) L g ++ [iConj P (gt L i) (unitV P.orders.length g)] := by rw [HS.out, addZ, if_neg hin]
            have HA := Lib.hid hadd; clear hadd hin
            obtain ⟨wu, hrun, hSu, hgu⟩ := hSz.update (num P (iConj P (gt L i) (unitV P.orders.length g))) (num_wf hP HZ.out) (by simp; omega)
            have hmr : mb < wr.heap.size := hS.lt
            have hzu : OwnIn (From wr.heap.size) wu (.slice az (iConj P (gt L i) (unitV P.orders.length g)).length capz) (iConj P (gt L i) (unitV P.orders.length g)) := rdOwn.mono hzo (fun k hk hlt => ⟨hk, Nat.lt_of_lt_of_le hlt hgu.size, hgu.block k hlt (fun e => by have he := Option.some.inj e; have hk : wr.heap.size ≤ k := hk; omega)⟩)
            obtain ⟨hav1, hav2, hav3⟩ := hL.avoids bm rfl
            go_wp2_with (at_builtin; go_must (refine wp_app_rowA rfl _ _ rfl w.heap.size (fun k => k = mb ∨ (wo.heap.size ≤ k ∧ k < wg.heap.size)) wr wu _ _ _ (iConj P (gt L i) (unitV P.orders.length g)) rfl hL (fun k hk => hk.elim (fun e => e ▸ hmr) (fun h => (HKEEP.out k h.1 h.2).1)) (some mb) (grown_trans (grown_of_ext _ hgz) hgu) (fun k hk => by cases hk; exact .inl rfl) hzu rfl rfl (by omega) hg.size ?_); intro v5 w5 hL5 hg5)
            have hgu2 : Ext w wu := grown_own hgwz hgu (fun j hj hlt => by cases hj; omega)
            have hg5' : wu.grownBy w5 (some bm) := hg5
            have hgw5 : Ext w w5 := grown_own hgu2 hg5' (fun j hj hlt => by cases hj; omega)
            have hS5 := hSu.kept hg5' (fun e => hav1 (.inl (by cases e; rfl)))
            have hk5 : ∀ k, wo.heap.size ≤ k → k < wg.heap.size → k < w5.heap.size ∧ w5.heap[k]? = wg.heap[k]? := fun k h1 h2 => by
              obtain ⟨h3, h4⟩ := HKZ.out k h1 h2
              have h5 := Nat.lt_of_lt_of_le h3 hgu.size
              refine ⟨Nat.lt_of_lt_of_le h5 hg5'.size, (hg5'.block k h5 (fun e => hav1 (by cases e; exact .inr ⟨h1, h2⟩))).trans ((hgu.block k h3 (fun e => by cases e; omega)).trans h4)⟩
            have HK5 := Lib.hid hk5; clear hk5
            go_roundw
            case rel => exact ⟨g + 1, by go_num, by omega, hgw5, by rw [HA.out]; exact hL5, by rw [HA.out]; exact hS5.congr (by simp) (fun a => by rw [List.map_append, List.mem_append, List.mem_cons, List.map_cons, List.map_nil, List.mem_singleton]; exact Or.comm), HK5.out⟩
            case measure => simp [intOf]; omega
        · have hge : g = P.orders.length := by omega
          subst hge
          have hIn := HI.out.inn hP HY.out P.orders.length
          have hnext : orbTo P f i L = orbTo P (f - 1) (i + 1) (orbIn P (gt L i) L P.orders.length) := by
            obtain ⟨f', rfl⟩ : ∃ f', f = f' + 1 := ⟨f - 1, by omega⟩
            simp only [orbTo, if_pos hlt, Nat.add_sub_cancel]
          have hlen2 : i + 1 ≤ (orbIn P (gt L i) L P.orders.length).length := by
            obtain ⟨M2, hM2⟩ := HPRE.out
            rw [hM2]; simp; omega
          have HN := Lib.hid (And.intro hIn (And.intro hnext hlen2)); clear hIn hnext hlen2
          have hL6 := hL.less (A' := fun k => k = mb) (fun k hk => .inl hk)
          go_wp2
          go_roundw
          case rel => exact ⟨i + 1, f - 1, orbIn P (gt L i) L P.orders.length, by go_num, HN.out.2.2, Nat.le_trans (by omega) HN.out.2.2, by omega, hg, hL6, hS, HN.out.1, by rw [← HN.out.2.1]; exact HORB.out⟩
          case measure => simp [intOf]; omega
    · have hie : i = L.length := by omega
      have hLe : L = orb P X := by
        rw [← HORB.out]
        cases f with
        | zero => rfl
        | succ f => simp only [orbTo]; rw [if_neg hlt]
      have HLE := Lib.hid hLe; clear hLe
      subst hie
      go_wp2_with fail
      refine Calls.mono (sortRows_ok wr _ L w.heap.size hL.o (by omega) (by omega)) ?_
      rintro es ws ⟨rfl, hs1, hs2⟩
      have hgs := grown_own hg hs2 (fun j hj hlt => by have := (hL.avoids j hj).2.1; omega)
      go_wp2
      exact bodyPost_ret (v := .slice aL L.length capL) (by simp [results, Try.results49, go_sem]) rfl ⟨_, rfl, hgs, by rw [← HLE.out]; exact hs1⟩

end Go.Proofs.Ytljdneobfbimiaa

/- impl.classesOf, impl.ClassSizes. -/
namespace Go.Proofs.Ytljdneobfbimiaa
open Go.Proofs Go.RowKit

abbrev Rows3O (B : Nat) (w : World) (v : Value) (xs : List (List (List Int))) : Prop := SlO (fun F w u (x : List (List Int)) => RowsD F w u x) 23 B w v xs

/-- the classes that the program has found among the first k elements -/
def iClsTo (P : Pr) : Nat → List (List (List Int))
  | 0 => []
  | k + 1 => if (iClsTo P k).any (fun C => bsFound C (elAt P (k : Int))) then iClsTo P k else iClsTo P k ++ [sortL (orb P (elAt P (k : Int)))]
def iCls (P : Pr) : List (List (List Int)) := iClsTo P (ordP P).toNat

theorem iClsTo_len (P : Pr) (k : Nat) : (iClsTo P k).length ≤ k := by
  induction k with
  | zero => simp [iClsTo]
  | succ k ih =>
    simp only [iClsTo]; split
    · omega
    · rw [List.length_append]; simp; omega

theorem orb_len {P : Pr} (hP : Valid P) {X : List Int} (hX : Vec P.orders X) : (orb P X).length ≤ (ordP P).toNat := by
  have : ∀ (f i : Nat) (L : List (List Int)), OrbI P L → (orbTo P f i L).length ≤ (ordP P).toNat := by
    intro f
    induction f with
    | zero => intro i L h; exact h.len hP
    | succ f ih =>
      intro i L h
      simp only [orbTo]
      split
      · rename_i hi
        exact ih _ _ (h.inn hP (h.vec _ (gt_mem hi)) _)
      · exact h.len hP
  exact this _ _ _ (OrbI.single hX)

theorem iClsTo_rows {P : Pr} (hP : Valid P) (k : Nat) : ∀ C ∈ iClsTo P k, C.length ≤ (ordP P).toNat := by
  induction k with
  | zero => simp [iClsTo]
  | succ k ih =>
    intro C hC
    simp only [iClsTo] at hC
    split at hC
    · exact ih C hC
    · rcases List.mem_append.1 hC with h | h
      · exact ih C h
      · rw [List.mem_singleton.1 h, (sortL_perm _).length_eq]
        exact orb_len hP (elAt_vec hP _ (by omega))

theorem firstAt_any {CC : List (List (List Int))} {X : List Int} {r : Int} (h : FirstAt (fun i => bsFound (gt CC i) X) CC.length r) : (r < 0 ↔ CC.any (fun C => bsFound C X) = false) := by
  rcases h with ⟨k, rfl, hk, hp, _⟩ | ⟨rfl, hno⟩
  · constructor
    · intro h; omega
    · intro h
      rw [List.any_eq_false] at h
      exact absurd hp (h _ (gt_mem hk))
  · constructor
    · intro _
      rw [List.any_eq_false]
      intro C hC
      obtain ⟨i, hi, rfl⟩ := mem_gt hC
      simp [hno i hi]
    · intro _; omega

theorem und_rows3c : Try.prog.underlying 24 = some (.slice 23) := by kernel_rfl
theorem Try.infoRow2 : (Try.prog.info? 23).map (fun i => (i.zero, i.size, i.bytes)) = some (some (.slice none 0 0), 1, 24) := by kernel_rfl

open Classical in
set_option maxRecDepth 100000 in
set_option maxHeartbeats 8000000 in
theorem classesOf_ok (P : Pr) (w : World) (p : Value) (Sp : Nat → Prop) (hp : PresP Sp w p P) :
    Calls Try.prog 30 #[p] w (Ret w fun w' v => ∃ r, v = .tuple #[r, .int .i64 (clsCode P (iconsB P))] ∧ ((clsCode P (iconsB P) ≠ 0 ∧ r = .slice none 0 0) ∨ (clsCode P (iconsB P) = 0 ∧ Rows3O w.heap.size w' r (iCls P)))) := by
  obtain ⟨pb, po, rfl⟩ := hp.shape
  obtain ⟨vo, vp, vc, _, _, hb1, hb2, hb3, h3⟩ := hp.at
  go_enter Try.func30, Try.ntmps30
  go_wp2_with fail
  refine Calls.mono (isConsistent_ok P _ _ _ ⟨_, _, _, rfl, h3⟩) ?_
  rintro eA wA ⟨vA, rfl, hgA, rfl⟩
  clear hb1 hb2 hb3 h3
  cases hr : iconsB P with
  | false =>
    go_wp2
    exact bodyPost_ret (v := .tuple #[.slice none 0 0, .int .i64 1]) (by simp [results, Try.results30, go_sem]) rfl ⟨_, rfl, hgA, _, by simp [clsCode, hr], .inl ⟨by simp [clsCode, hr], rfl⟩⟩
  | true =>
    have hP : Valid P := by
      unfold iconsB at hr
      exact (of_decide_eq_true hr).1
    have h729 : ordP P ≤ 729 := hP.le729
    have hpos := hP.ordP_pos
    have hn6 := hP.n6
    go_wp2_with fail
    refine (orderOf_ok _ _ P Sp hP (hp.ext hgA)).mono ?_
    rintro eB wB ⟨rfl, rfl⟩
    by_cases hb : ordP P > 128
    · have hb' : 128 < ordP P := hb
      go_wp2
      exact bodyPost_ret (v := .tuple #[.slice none 0 0, .int .i64 3]) (by simp [results, Try.results30, go_sem]) rfl ⟨_, rfl, hgA, _, by simp [clsCode, hr, hb'], .inl ⟨by simp [clsCode, hr, hb'], rfl⟩⟩
    · have hb' : ordP P ≤ 128 := by omega
      have hz : clsCode P (iconsB P) = 0 := by simp [clsCode, hr]; omega
      have HZ := Lib.hid hz; clear hz hr
      go_wp2_with fail
      refine Calls.mono (allElements_ok P hP _ _ Sp (hp.ext hgA)) ?_
      rintro eC wC ⟨vC, rfl, hgC, hC⟩
      have hal : (allEl P).length = (ordP P).toNat := by simp [allEl]
      have hCd := RowsD.rows (hC.toD (by omega))
      obtain ⟨ac, capc, rfl, _, _⟩ := Sl.shape hCd
      rw [hal] at hCd
      have HAL := Lib.hid hal
      simp only [hal]
      clear hal
      have hgwC := grown_trans hgA hgC
      go_wp2
      go_loopw [4, 18] (fun v kv wr => ∃ k : Nat, kv = .int .i64 k ∧ k ≤ (ordP P).toNat ∧ Ext wC wr ∧ Rows3O wC.heap.size wr v (iClsTo P k)) (fun _ kv _ => (ordP P).toNat - (intOf kv).toNat)
      case atStart => exact ⟨0, rfl, by omega, Ext.refl _, SlO.nil _ _ _ _⟩
      case round =>
        obtain ⟨k, rfl, hk, hg, hL⟩ := hrel
        have hkl := iClsTo_len P k
        have hLd := Rows3D.rows (hL.toD (by omega))
        obtain ⟨aL, capL, rfl, _, _⟩ := Sl.shape hLd
        by_cases hlt : k < (ordP P).toNat
        · have hlt' : (k : Int) < ordP P := by omega
          have hlt'' : (k : Int) < max (ordP P) 0 := by omega
          obtain ⟨be, oe, ae2, cape2, rfl, _, _, hce, hie⟩ := Rows2.at (hCd.ext hg) k (by rw [HAL.out]; omega)
          have hge : gt (allEl P) k = elAt P (k : Int) := by simp [allEl, gt, hlt]
          rw [hge] at hce hie
          have hvE := elAt_vec hP (k : Int) (by omega)
          have HV := Lib.hid (And.intro hvE hge); clear hvE hge
          go_wp2_with fail
          refine Calls.mono (classNumber_ok _ _ (iClsTo P k) (elAt P (k : Int)) wr _ _ hLd hie (fun i hi => by have := iClsTo_rows hP k _ (gt_mem hi); omega)) ?_
          rintro eN wN ⟨vN, rfl, hgN, r, rfl, hr⟩
          have hany := firstAt_any hr
          have HS := Lib.hid (show iClsTo P (k + 1) = if (iClsTo P k).any (fun C => bsFound C (elAt P (k : Int))) then iClsTo P k else iClsTo P k ++ [sortL (orb P (elAt P (k : Int)))] from rfl)
          have hgN' := grown_trans hg hgN
          have hL2 := hL.ext rdRows hgN
          clear hce hr
          by_cases hneg : r < 0
          · have ha := hany.1 hneg
            have hs := HS.out
            rw [ha] at hs
            simp only [if_false, Bool.false_eq_true] at hs
            have HS2 := Lib.hid hs; clear hs ha hany
            go_wp2_with fail
            refine Calls.mono (classOf_ok P hP wN _ _ (elAt P (k : Int)) Sp _ (hp.ext (grown_trans hgwC hgN')) (hie.ext hgN) HV.out.1) ?_
            rintro eX wX ⟨vX, rfl, hgX, hX⟩
            have hXl : (sortL (orb P (elAt P (k : Int)))).length ≤ 1000000 := by
              rw [(sortL_perm _).length_eq]
              have := orb_len hP HV.out.1
              omega
            have hXd : RowsD (From wN.heap.size) wX vX (sortL (orb P (elAt P (k : Int)))) := hX.toD (by omega)
            obtain ⟨aX, capX, rfl, _, _⟩ := SlD.shape hXd
            clear hXl
            go_wp2_with (at_builtin; go_must (refine wp_app_one rdRows 24 23 (.slice none 0 0) 24 und_rows3c Try.infoRow2 rfl (by decide) rfl _ _ rfl wC.heap.size wN wX _ _ _ (sortL (orb P (elAt P (k : Int)))) rfl hL2 hgX hXd rfl rfl (by omega) hgN'.size ?_); intro v5 w5 hL5 hg5 hg6)
            have hgx := hL2.extw hgN' (Nat.le_refl _) hg5
            go_roundw
            case rel => exact ⟨k + 1, by go_num, by omega, hgx, by rw [HS2.out]; exact hL5⟩
            case measure => simp [intOf]; omega
          · have hneg' : 0 ≤ r := by omega
            have ha : (iClsTo P k).any (fun C => bsFound C (elAt P (k : Int))) = true := by
              cases h : (iClsTo P k).any (fun C => bsFound C (elAt P (k : Int)))
              · exact absurd (hany.2 h) hneg
              · rfl
            have hs := HS.out
            rw [if_pos ha] at hs
            have HS2 := Lib.hid hs; clear hs ha hany
            go_wp2
            go_roundw
            case rel => exact ⟨k + 1, by go_num, by omega, hgN', by rw [HS2.out]; exact hL2⟩
            case measure => simp [intOf]; omega
        · have hke : k = (ordP P).toNat := by omega
          subst hke
          go_wp2
          exact bodyPost_ret (v := .tuple #[.slice aL (iClsTo P (ordP P).toNat).length capL, .int .i64 0]) (by simp [results, Try.results30, go_sem]) rfl ⟨_, rfl, grown_trans hgwC hg, _, by rw [HZ.out], .inr ⟨HZ.out, hL.weak hgwC.size⟩⟩

def iSizes (P : Pr) : List Int := (iCls P).map (fun C => (C.length : Int))

end Go.Proofs.Ytljdneobfbimiaa

/- Plain: in a consistent presentation the program's classes are the reference's: what the program collects of a member is its conjugacy class, and both count the same sizes. -/
namespace Go.Proofs.Ytljdneobfbimiaa

section
variable {P : Pr} (G : Grp P)
include G

/-- y is a conjugate of x -/
def Cj (P : Pr) (x y : List Int) : Prop := ∃ g, Vec P.orders g ∧ y = rConj P x g

omit G in
theorem mem_addZ (hP : Valid P) {L : List (List Int)} (hL : OrbI P L) {z : List Int} (hz : Vec P.orders z) (y : List Int) : y ∈ addZ P L z ↔ y ∈ L ∨ y = z := by
  unfold addZ
  split
  · rename_i h
    obtain ⟨u, hu, hn⟩ := List.mem_map.1 h
    have : u = z := num_inj hP (hL.vec u hu) hz hn
    subst this
    constructor
    · exact fun h => .inl h
    · rintro (h | h)
      · exact h
      · rw [h]; exact hu
  · simp

theorem Grp.orbIn_mem {L : List (List Int)} (hL : OrbI P L) {y : List Int} (hy : Vec P.orders y) (g : Nat) : ∀ z, z ∈ orbIn P y L g ↔ z ∈ L ∨ ∃ j, j < g ∧ z = rConj P y (unitV P.orders.length j) := by
  induction g with
  | zero =>
    intro z
    simp only [orbIn]
    exact ⟨fun h => .inl h, fun h => h.elim id (fun ⟨j, hj, _⟩ => by omega)⟩
  | succ g ih =>
    intro z
    simp only [orbIn]
    rw [mem_addZ G.v (hL.inn G.v hy g) (iConj_vec G.v y _ hy (unitV_vec G.v g)), ih z, G.iConj_eq hy (unitV_vec G.v g)]
    constructor
    · rintro ((h | ⟨j, hj, h⟩) | h)
      · exact .inl h
      · exact .inr ⟨j, by omega, h⟩
      · exact .inr ⟨g, by omega, h⟩
    · rintro (h | ⟨j, hj, h⟩)
      · exact .inl (.inl h)
      · by_cases e : j = g
        · subst e; exact .inr h
        · exact .inl (.inr ⟨j, by omega, h⟩)

/-- the breadth-first walk closes the orbit -/
theorem Grp.orbTo_spec {x : List Int} (hx : Vec P.orders x) (f : Nat) : ∀ (i : Nat) (L : List (List Int)), f + i = (ordP P).toNat + 1 → i ≤ L.length → OrbI P L → x ∈ L → (∀ y ∈ L, Cj P x y) →
    (∀ j, j < i → ∀ g, g < P.orders.length → rConj P (gt L j) (unitV P.orders.length g) ∈ L) →
    OrbI P (orbTo P f i L) ∧ x ∈ orbTo P f i L ∧ (∀ y ∈ orbTo P f i L, Cj P x y) ∧ ∀ y ∈ orbTo P f i L, ∀ g, g < P.orders.length → rConj P y (unitV P.orders.length g) ∈ orbTo P f i L := by
  induction f with
  | zero =>
    intro i L hf hi hL _ _ _
    have := hL.len G.v
    omega
  | succ f ih =>
    intro i L hf hi hL hxL hcj hcl
    simp only [orbTo]
    by_cases hlt : i < L.length
    · rw [if_pos hlt]
      have hy := hL.vec _ (gt_mem hlt)
      have hmem := G.orbIn_mem hL hy P.orders.length
      obtain ⟨M, hM⟩ := orbIn_pre P (gt L i) L P.orders.length
      have hlen : L.length ≤ (orbIn P (gt L i) L P.orders.length).length := by rw [hM, List.length_append]; omega
      refine ih (i + 1) _ (by omega) (by omega) (hL.inn G.v hy _) ((hmem x).2 (.inl hxL)) ?_ ?_
      · intro y hyy
        rcases (hmem y).1 hyy with h | ⟨j, hj, h⟩
        · exact hcj y h
        · obtain ⟨g, hg, h2⟩ := hcj _ (gt_mem hlt)
          refine ⟨rMul P g (unitV P.orders.length j), G.mulV hg (unitV_vec G.v j), ?_⟩
          rw [h, h2, G.conj_mul hx hg (unitV_vec G.v j)]
      · intro j hj g hg
        have e : gt (orbIn P (gt L i) L P.orders.length) j = gt L j := by rw [hM]; exact gt_append_left _ _ _ (by omega)
        rw [e]
        by_cases ej : j = i
        · rw [ej]; exact (hmem _).2 (.inr ⟨g, hg, rfl⟩)
        · exact (hmem _).2 (.inl (hcl j (by omega) g hg))
    · rw [if_neg hlt]
      have : i = L.length := by omega
      refine ⟨hL, hxL, hcj, fun y hy g hg => ?_⟩
      obtain ⟨j, hj, rfl⟩ := mem_gt hy
      exact hcl j (by omega) g hg

/-- what the program collects of x is the conjugacy class of x -/
theorem Grp.orb_spec {x : List Int} (hx : Vec P.orders x) : OrbI P (orb P x) ∧ ∀ y, y ∈ orb P x ↔ Cj P x y := by
  obtain ⟨h1, h2, h3, h4⟩ := G.orbTo_spec hx ((ordP P).toNat + 1) 0 [x] rfl (by simp) (OrbI.single hx) (by simp) (fun y hy => by
    rw [List.mem_singleton.1 hy]; exact ⟨_, G.oneV, (G.conj_one hx).symm⟩) (fun j hj => by omega)
  refine ⟨h1, fun y => ⟨h3 y, ?_⟩⟩
  rintro ⟨g, hg, rfl⟩
  have key := G.gen_ind (fun g => ∀ y ∈ orb P x, rConj P y g ∈ orb P x) (fun y hy => by rw [G.conj_one (h1.vec y hy)]; exact hy) (fun u j hu ih hj y hy => by
    rw [← G.conj_mul (h1.vec y hy) hu (unitV_vec G.v j)]
    exact h4 _ (ih y hy) j hj) hg
  exact key x h2

theorem Grp.Cj_refl {x : List Int} (hx : Vec P.orders x) : Cj P x x := ⟨_, G.oneV, (G.conj_one hx).symm⟩
theorem Grp.Cj_symm {x y : List Int} (hx : Vec P.orders x) (h : Cj P x y) : Cj P y x := by
  obtain ⟨g, hg, rfl⟩ := h
  exact ⟨rInv P g, G.invV hg, (G.conj_back hx hg).symm⟩
theorem Grp.Cj_trans {x y z : List Int} (hx : Vec P.orders x) (h : Cj P x y) (k : Cj P y z) : Cj P x z := by
  obtain ⟨g, hg, rfl⟩ := h
  obtain ⟨u, hu, rfl⟩ := k
  exact ⟨_, G.mulV hg hu, G.conj_mul hx hg hu⟩
theorem Grp.Cj_vec {x y : List Int} (hx : Vec P.orders x) (h : Cj P x y) : Vec P.orders y := by
  obtain ⟨g, hg, rfl⟩ := h
  exact G.conjV hx hg

/-- the marks of the reference -/
theorem Grp.marks_spec {x : List Int} (hx : Vec P.orders x) (k : Nat) (hk : k ≤ (ordP P).toNat) : ∀ t, t < (ordP P).toNat → (gt (marksTo P x k) t = true ↔ ∃ j, j < k ∧ rConj P x (elAt P (j : Int)) = elAt P (t : Int)) := by
  induction k with
  | zero =>
    intro t ht
    simp only [marksTo]
    have : gt (List.replicate (ordP P).toNat false) t = false := by simp [gt, ht]
    rw [this]
    constructor
    · intro h; cases h
    · rintro ⟨j, hj, _⟩; omega
  | succ k ih =>
    intro t ht
    simp only [marksTo]
    rw [gt_set _ _ _ _ (by rw [marksTo_len]; exact ht)]
    have hv := G.conjV hx (elAt_vec G.v (k : Int) (by omega))
    have hb := num_bd G.v hv
    by_cases e : (num P (rConj P x (elAt P (k : Int)))).toNat = t
    · rw [if_pos e]
      constructor
      · intro _
        refine ⟨k, by omega, ?_⟩
        rw [← e, show (((num P (rConj P x (elAt P (k : Int)))).toNat : Nat) : Int) = num P (rConj P x (elAt P (k : Int))) by omega, elAt_num G.v hv]
      · intro _; rfl
    · rw [if_neg e, ih (by omega) t ht]
      constructor
      · rintro ⟨j, hj, h⟩; exact ⟨j, by omega, h⟩
      · rintro ⟨j, hj, h⟩
        by_cases ej : j = k
        · subst ej
          exfalso; apply e
          rw [h, num_elAt G.v _ (by omega) (by omega)]
          omega
        · exact ⟨j, by omega, h⟩

theorem Grp.marks_cj {x : List Int} (hx : Vec P.orders x) (t : Nat) (ht : t < (ordP P).toNat) : gt (marksTo P x (ordP P).toNat) t = true ↔ Cj P x (elAt P (t : Int)) := by
  rw [G.marks_spec hx _ (Nat.le_refl _) t ht]
  constructor
  · rintro ⟨j, hj, h⟩; exact ⟨_, elAt_vec G.v (j : Int) (by omega), h.symm⟩
  · rintro ⟨g, hg, h⟩
    have hb := num_bd G.v hg
    refine ⟨(num P g).toNat, by omega, ?_⟩
    rw [show (((num P g).toNat : Nat) : Int) = num P g by omega, elAt_num G.v hg, h]

omit G in
theorem paint_gt (m : List Bool) (c : Int) (L : List Int) (j : Nat) : ∀ t, t < L.length → gt (paint m c L j) t = if t < j ∧ gt m t = true then c else gt L t := by
  induction j with
  | zero => intro t ht; rw [if_neg (by omega)]; rfl
  | succ j ih =>
    intro t ht
    simp only [paint]
    by_cases hm : gt m j = true
    · rw [if_pos hm, gt_set _ _ _ _ (by rw [paint_len]; exact ht)]
      by_cases e : j = t
      · subst e; rw [if_pos rfl, if_pos ⟨by omega, hm⟩]
      · rw [if_neg e, ih t ht]
        by_cases h2 : t < j ∧ gt m t = true
        · rw [if_pos h2, if_pos ⟨by omega, h2.2⟩]
        · rw [if_neg h2, if_neg (fun h => h2 ⟨by omega, h.2⟩)]
    · rw [if_neg hm, ih t ht]
      by_cases h2 : t < j ∧ gt m t = true
      · rw [if_pos h2, if_pos ⟨by omega, h2.2⟩]
      · rw [if_neg h2, if_neg (fun h => h2 ⟨by
          rcases Nat.lt_succ_iff_lt_or_eq.1 h.1 with h3 | h3
          · exact h3
          · subst h3; exact absurd h.2 hm, h.2⟩)]

omit G in
theorem fill_gt (N j : Nat) (hj : j ≤ N) : ∀ t, t < j → gt (fillTo N j) t = -1 := by
  induction j with
  | zero => intro t ht; omega
  | succ j ih =>
    intro t ht
    simp only [fillTo]
    rw [gt_set _ _ _ _ (by rw [fillTo_len]; omega)]
    split
    · rfl
    · exact ih (by omega) t (by omega)

/-- one class of the program -/
structure ClsOk (P : Pr) (C : List (List Int)) : Prop where
  nd : C.Nodup
  so : SortedL C
  vec : ∀ y ∈ C, Vec P.orders y
  cj : ∀ y ∈ C, ∀ z, z ∈ C ↔ Cj P y z

/-- both sides' classes after k elements -/
structure ClsInv (P : Pr) (k : Nat) : Prop where
  num : (clsTo P k).2 = (iClsTo P k).length
  ok : ∀ C ∈ iClsTo P k, ClsOk P C
  done : ∀ t, t < k → 0 ≤ gt (clsTo P k).1 t
  at_ : ∀ t, t < (ordP P).toNat → (gt (clsTo P k).1 t = -1 ∧ ∀ C ∈ iClsTo P k, elAt P (t : Int) ∉ C) ∨
    ∃ j : Nat, gt (clsTo P k).1 t = j ∧ j < (iClsTo P k).length ∧ elAt P (t : Int) ∈ gt (iClsTo P k) j ∧ ∀ j', j' < (iClsTo P k).length → elAt P (t : Int) ∈ gt (iClsTo P k) j' → j' = j

theorem Grp.sortL_ok {x : List Int} (hx : Vec P.orders x) : ClsOk P (sortL (orb P x)) ∧ ∀ y, y ∈ sortL (orb P x) ↔ Cj P x y := by
  obtain ⟨h1, h2⟩ := G.orb_spec hx
  have hp := sortL_perm (orb P x)
  have hm : ∀ y, y ∈ sortL (orb P x) ↔ Cj P x y := fun y => hp.mem_iff.trans (h2 y)
  have hnd : (orb P x).Nodup := by
    have h3 := h1.nd
    unfold List.Nodup at h3 ⊢
    rw [List.pairwise_map] at h3
    exact h3.imp (fun h e => h (by rw [e]))
  refine ⟨⟨(hp.nodup_iff).2 hnd, sortL_sorted _, fun y hy => G.Cj_vec hx ((hm y).1 hy), fun y hy z => ?_⟩, hm⟩
  rw [hm z]
  have hxy := (hm y).1 hy
  constructor
  · intro h; exact G.Cj_trans (G.Cj_vec hx hxy) (G.Cj_symm hx hxy) h
  · intro h; exact G.Cj_trans hx hxy h

theorem Grp.cls_inv (k : Nat) (hk : k ≤ (ordP P).toNat) : ClsInv P k := by
  induction k with
  | zero =>
    refine ⟨rfl, fun C h => (by cases h), fun t ht => by omega, fun t ht => .inl ⟨?_, fun C h => (by cases h)⟩⟩
    simp only [clsTo]
    exact fill_gt _ _ (Nat.le_refl _) t ht
  | succ k ih =>
    have I := ih (by omega)
    have hany : ((iClsTo P k).any (fun C => bsFound C (elAt P (k : Int))) = true) ↔ ∃ C ∈ iClsTo P k, elAt P (k : Int) ∈ C := by
      rw [List.any_eq_true]
      constructor
      · rintro ⟨C, hC, h⟩
        rw [bsFound_mem _ _ (I.ok C hC).so] at h
        exact ⟨C, hC, of_decide_eq_true h⟩
      · rintro ⟨C, hC, h⟩
        refine ⟨C, hC, ?_⟩
        rw [bsFound_mem _ _ (I.ok C hC).so]
        exact decide_eq_true h
    have hkN : k < (ordP P).toNat := by omega
    by_cases h0 : 0 ≤ gt (clsTo P k).1 k
    · -- already painted
      have hin : (iClsTo P k).any (fun C => bsFound C (elAt P (k : Int))) = true := by
        rw [hany]
        rcases I.at_ k hkN with ⟨h1, _⟩ | ⟨j, h1, h2, h3, _⟩
        · omega
        · exact ⟨_, gt_mem h2, h3⟩
      have e1 : clsTo P (k + 1) = clsTo P k := by rw [clsTo, if_pos h0]
      have e2 : iClsTo P (k + 1) = iClsTo P k := by rw [iClsTo, if_pos hin]
      refine ⟨by rw [e1, e2]; exact I.num, by rw [e2]; exact I.ok, fun t ht => ?_, by rw [e1, e2]; exact I.at_⟩
      rw [e1]
      rcases Nat.lt_succ_iff_lt_or_eq.1 ht with h | h
      · exact I.done t h
      · rw [h]; exact h0
    · have hnot : ∀ C ∈ iClsTo P k, elAt P (k : Int) ∉ C := by
        rcases I.at_ k hkN with ⟨_, h2⟩ | ⟨j, h1, _⟩
        · exact h2
        · omega
      have hin : ¬ (iClsTo P k).any (fun C => bsFound C (elAt P (k : Int))) = true := by
        rw [hany]; rintro ⟨C, hC, h⟩; exact hnot C hC h
      have hxk := elAt_vec G.v (k : Int) (by omega)
      obtain ⟨hok, hmem⟩ := G.sortL_ok hxk
      have e1 : clsTo P (k + 1) = (paint (marksTo P (elAt P (k : Int)) (ordP P).toNat) (clsTo P k).2 (clsTo P k).1 (ordP P).toNat, (clsTo P k).2 + 1) := by rw [clsTo, if_neg h0]
      have e2 : iClsTo P (k + 1) = iClsTo P k ++ [sortL (orb P (elAt P (k : Int)))] := by rw [iClsTo, if_neg hin]
      have hpg : ∀ t, t < (ordP P).toNat → gt (clsTo P (k + 1)).1 t = if gt (marksTo P (elAt P (k : Int)) (ordP P).toNat) t = true then ((clsTo P k).2 : Int) else gt (clsTo P k).1 t := fun t ht => by
        rw [e1]
        simp only
        rw [paint_gt _ _ _ _ t (by rw [clsTo_len]; exact ht)]
        by_cases hm : gt (marksTo P (elAt P (k : Int)) (ordP P).toNat) t = true
        · rw [if_pos ⟨ht, hm⟩, if_pos hm]
        · rw [if_neg (fun h => hm h.2), if_neg hm]
      -- a member of the new class stands in no old one
      have hdis : ∀ t, t < (ordP P).toNat → Cj P (elAt P (k : Int)) (elAt P (t : Int)) → ∀ C ∈ iClsTo P k, elAt P (t : Int) ∉ C := fun t ht h C hC hc =>
        hnot C hC (((I.ok C hC).cj _ hc _).2 (G.Cj_symm hxk h))
      have hnewat : gt (iClsTo P (k + 1)) (iClsTo P k).length = sortL (orb P (elAt P (k : Int))) := by rw [e2]; exact gt_concat _ _
      have hold : ∀ j, j < (iClsTo P k).length → gt (iClsTo P (k + 1)) j = gt (iClsTo P k) j := fun j hj => by rw [e2]; exact gt_append_left _ _ _ hj
      have hlen : (iClsTo P (k + 1)).length = (iClsTo P k).length + 1 := by rw [e2, List.length_append]; rfl
      have hat : ∀ t, t < (ordP P).toNat → (gt (clsTo P (k + 1)).1 t = -1 ∧ ∀ C ∈ iClsTo P (k + 1), elAt P (t : Int) ∉ C) ∨
          ∃ j : Nat, gt (clsTo P (k + 1)).1 t = j ∧ j < (iClsTo P (k + 1)).length ∧ elAt P (t : Int) ∈ gt (iClsTo P (k + 1)) j ∧ ∀ j', j' < (iClsTo P (k + 1)).length → elAt P (t : Int) ∈ gt (iClsTo P (k + 1)) j' → j' = j := fun t ht => by
        rw [hpg t ht]
        by_cases hm : gt (marksTo P (elAt P (k : Int)) (ordP P).toNat) t = true
        · rw [if_pos hm]
          have hc := (G.marks_cj hxk t ht).1 hm
          refine .inr ⟨(iClsTo P k).length, by rw [I.num], by omega, by rw [hnewat]; exact (hmem _).2 hc, fun j' hj' h => ?_⟩
          by_cases hlt : j' < (iClsTo P k).length
          · rw [hold j' hlt] at h
            exact absurd h (hdis t ht hc _ (gt_mem hlt))
          · omega
        · rw [if_neg hm]
          have hc : ¬ Cj P (elAt P (k : Int)) (elAt P (t : Int)) := fun h => hm ((G.marks_cj hxk t ht).2 h)
          rcases I.at_ t ht with ⟨h1, h2⟩ | ⟨j, h1, h2, h3, h4⟩
          · refine .inl ⟨h1, fun C hC => ?_⟩
            rw [e2, List.mem_append] at hC
            rcases hC with hC | hC
            · exact h2 C hC
            · rw [List.mem_singleton.1 hC]; exact fun h => hc ((hmem _).1 h)
          · refine .inr ⟨j, h1, by omega, by rw [hold j h2]; exact h3, fun j' hj' h => ?_⟩
            by_cases hlt : j' < (iClsTo P k).length
            · rw [hold j' hlt] at h; exact h4 j' hlt h
            · have : j' = (iClsTo P k).length := by omega
              rw [this, hnewat] at h
              exact absurd ((hmem _).1 h) hc
      refine ⟨by rw [e1, hlen]; simp only; rw [I.num], fun C hC => ?_, fun t ht => ?_, hat⟩
      · rw [e2, List.mem_append] at hC
        rcases hC with hC | hC
        · exact I.ok C hC
        · rw [List.mem_singleton.1 hC]; exact hok
      · rw [hpg t (by omega)]
        split
        · omega
        · rename_i hm
          rcases Nat.lt_succ_iff_lt_or_eq.1 ht with h | h
          · exact I.done t h
          · exfalso; apply hm; rw [h]; exact (G.marks_cj hxk k hkN).2 (G.Cj_refl hxk)

/-- every element has the number of its class -/
theorem Grp.rCls_bd : ∀ k, k < (ordP P).toNat → 0 ≤ gt (rCls P).1 k ∧ gt (rCls P).1 k < (rCls P).2 := by
  intro k hk
  have I := G.cls_inv (ordP P).toNat (Nat.le_refl _)
  have h1 := I.done k hk
  refine ⟨h1, ?_⟩
  unfold rCls
  rcases I.at_ k hk with ⟨h2, _⟩ | ⟨j, h2, h3, _⟩
  · omega
  · rw [h2, I.num]; omega

omit G in
theorem cnt_gt (L : List Int) (c k : Nat) (hb : ∀ t, t < k → 0 ≤ gt L t ∧ gt L t < c) : ∀ j, j < c → gt (cntTo L c k) j = (((List.range k).filter (fun t => decide (gt L t = (j : Int)))).length : Nat) := by
  induction k with
  | zero => intro j hj; simp [cntTo, gt, hj]
  | succ k ih =>
    intro j hj
    have hk := hb k (by omega)
    simp only [cntTo]
    rw [gt_set _ _ _ _ (by rw [cntTo_len]; exact hj), List.range_succ, List.filter_append, List.length_append]
    have ihj := ih (fun t ht => hb t (by omega)) j hj
    by_cases e : gt L k = (j : Int)
    · have e' : (gt L k).toNat = j := by omega
      rw [if_pos e', e', ihj]
      simp [e]
    · have e' : ¬ (gt L k).toNat = j := by omega
      rw [if_neg e', ihj]
      simp [e]

/-- both sides count the same sizes -/
theorem Grp.sizes_eq : iSizes P = rSizes P := by
  have I := G.cls_inv (ordP P).toNat (Nat.le_refl _)
  have hbd := G.rCls_bd
  unfold iSizes rSizes
  refine ext_gt ?_ (fun j hj => ?_)
  · rw [List.length_map, cntTo_len]; exact I.num.symm
  · rw [List.length_map] at hj
    have hj2 : j < (rCls P).2 := by show j < (clsTo P _).2; rw [I.num]; exact hj
    rw [gt_map _ _ _ hj, cnt_gt _ _ _ hbd j hj2]
    congr 1
    have ok := I.ok _ (gt_mem hj)
    have hnd : (((List.range (ordP P).toNat).filter (fun t => decide (gt (rCls P).1 t = (j : Int)))).map (fun t : Nat => elAt P (t : Int))).Nodup := by
      unfold List.Nodup
      rw [List.pairwise_map]
      have h1 : ((List.range (ordP P).toNat).filter (fun t => decide (gt (rCls P).1 t = (j : Int)))).Pairwise (fun a b => a ≠ b) := List.Pairwise.filter _ List.nodup_range
      refine List.Pairwise.imp_of_mem ?_ h1
      intro a b ha hb hne e
      have ha' := List.mem_range.1 (List.mem_filter.1 ha).1
      have hb' := List.mem_range.1 (List.mem_filter.1 hb).1
      have := congrArg (num P) e
      rw [num_elAt G.v _ (by omega) (by omega), num_elAt G.v _ (by omega) (by omega)] at this
      omega
    have hperm : (gt (iCls P) j).Perm (((List.range (ordP P).toNat).filter (fun t => decide (gt (rCls P).1 t = (j : Int)))).map (fun t : Nat => elAt P (t : Int))) := by
      refine (List.perm_ext_iff_of_nodup ok.nd hnd).2 (fun y => ?_)
      rw [List.mem_map]
      constructor
      · intro hy
        have hv := ok.vec y hy
        have hb := num_bd G.v hv
        have hey : elAt P (((num P y).toNat : Nat) : Int) = y := by
          rw [show (((num P y).toNat : Nat) : Int) = num P y by omega]; exact elAt_num G.v hv
        refine ⟨(num P y).toNat, List.mem_filter.2 ⟨List.mem_range.2 (by omega), decide_eq_true ?_⟩, hey⟩
        rcases I.at_ (num P y).toNat (by omega) with ⟨_, h2⟩ | ⟨j', h1, h2, h3, h4⟩
        · exact absurd hy (by rw [← hey]; exact h2 _ (gt_mem hj))
        · have : j = j' := h4 j hj (by rw [hey]; exact hy)
          rw [this]; exact h1
      · rintro ⟨t, ht, rfl⟩
        have ht1 := List.mem_range.1 (List.mem_filter.1 ht).1
        have ht2 : gt (rCls P).1 t = (j : Int) := of_decide_eq_true (List.mem_filter.1 ht).2
        rcases I.at_ t ht1 with ⟨h1, _⟩ | ⟨j', h1, h2, h3, _⟩
        · have h1' : gt (rCls P).1 t = -1 := h1
          omega
        · have h1' : gt (rCls P).1 t = (j' : Int) := h1
          have : j' = j := by omega
          rw [← this]; exact h3
    rw [hperm.length_eq, List.length_map]

end

end Go.Proofs.Ytljdneobfbimiaa

/- The rows' arguments: how a presentation that came in, or a list, reads in this claim's words. -/
namespace Go.Proofs.Ytljdneobfbimiaa
open Go.RowKit Go.ChangeShapes Go.WideShapes Go.Deep

theorem cells_int64 : Try.prog.cellsOf 2 = 1 := by kernel_rfl
theorem cells_ints : Try.prog.cellsOf 22 = 1 := by kernel_rfl
theorem cells_rows : Try.prog.cellsOf 23 = 1 := by kernel_rfl
theorem und_int64r : Try.prog.underlying 2 = some (.int .i64) := by kernel_rfl

section
variable {H : Type} {enc : TypeId × Value → H} {W : World} {sp : Nat → Bool}

/-- a slice that was read is one of this claim's slices -/
theorem open_sl {α : Type} [Inhabited α] {El : World → Value → α → Prop} {t e : TypeId} (ht : Try.prog.underlying t = some (.slice e)) (hc : Try.prog.cellsOf e = 1)
    (hEl : ∀ n c x, DataW.trod enc Try.prog W 0 sp true n e [c] = some x → ∃ y, El W c y) {fuel : Nat} {c : Value} {x : DataW H × List MemPlace} (h : DataW.trod enc Try.prog W 0 sp true fuel t [c] = some x) :
    ∃ xs : List α, Sl El Any W c xs := by
  rcases open_slice1 ht hc h with ⟨hcs, _⟩ | ⟨a, len, cap, m, n, V, D, Pl, hcs, _, hl, hm, hmm, _, hx⟩
  · cases hcs
    exact ⟨[], none, 0, rfl, ⟨by simp, by simp, fun _ => rfl⟩, fun i hi => by simp at hi⟩
  · cases hcs
    have hlm : len ≤ m := by rw [hmm]; split <;> omega
    obtain ⟨Z, hZ⟩ := choose_lt (α := α) (n := len) (p := fun i y => El W (V i) y) (fun i hi => hEl n (V i) _ (hx i (by omega)).2)
    refine ⟨(List.range len).map Z, some a, cap, by simp, ⟨by simpa using hl, by simp; unfold maxLen at hm; omega, fun h => by cases h⟩, fun i hi => ?_⟩
    simp only [List.length_map, List.length_range] at hi
    obtain ⟨h1, h2⟩ := hx i (by omega)
    obtain ⟨b, off, spot⟩ := a
    have hs : spot = none := by
      have h0 := (hx 0 (by omega)).1
      exact World.cell?_spot (by simpa [Addr.add] using h0)
    subst hs
    have hcell : W.cell? ⟨b, off + i, none⟩ = some (V i) := by
      have e : (⟨b, off, none⟩ : Addr).add i = ⟨b, off + i, none⟩ := by
        unfold Addr.add; split
        · rename_i h; subst h; rfl
        · rfl
      rw [← e]; exact h1
    refine ⟨b, off, V i, rfl, trivial, World.block_lt_of_cell? W _ hcell, hcell, ?_⟩
    have : gt ((List.range len).map Z) i = Z i := by simp [gt, hi]
    rw [this]; exact hZ i hi

theorem open_i64 {n : Nat} {c : Value} {x : DataW H × List MemPlace} (h : DataW.trod enc Try.prog W 0 sp true n 2 [c] = some x) : ∃ y, IntEl W c y := by
  cases n with
  | zero => simp [DataW.trod] at h
  | succ n =>
    unfold DataW.trod at h
    rw [und_int64r] at h
    cases c <;> simp at h
    rename_i k z
    obtain ⟨⟨rfl, _⟩, _⟩ := h
    exact ⟨z, rfl⟩
theorem open_i64s {n : Nat} {c : Value} {x : DataW H × List MemPlace} (h : DataW.trod enc Try.prog W 0 sp true n 22 [c] = some x) : ∃ l, Ints Any W c l :=
  open_sl und_ints cells_int64 (fun _ _ _ h => open_i64 h) h
theorem open_rows2 {n : Nat} {c : Value} {x : DataW H × List MemPlace} (h : DataW.trod enc Try.prog W 0 sp true n 23 [c] = some x) : ∃ l, Rows2 Any W c l :=
  open_sl (El := fun w u x => Ints Any w u x) und_rows cells_ints (fun _ _ _ h => open_i64s h) h
theorem open_rows3 {n : Nat} {c : Value} {x : DataW H × List MemPlace} (h : DataW.trod enc Try.prog W 0 sp true n 24 [c] = some x) : ∃ l, Rows3 Any W c l :=
  open_sl (El := fun w u x => Rows2 Any w u x) und_rows3 cells_rows (fun _ _ _ h => open_rows2 h) h

theorem cells_pres : Try.prog.cellsOf 26 = 3 := by kernel_rfl

set_option maxRecDepth 100000 in
/-- a presentation that came in -/
theorem open_pres {base : Nat} {v : Value} {d : DataW H} {p : List MemPlace} (hv : Value.okWide Try.prog W .any base 26 v) (h : DataW.Trod enc Try.prog W 0 sp true 26 v d p) : ∃ P, PresV Any W v P := by
  obtain ⟨fs, hfs, h3⟩ : ∃ fs, Try.prog.underlying 26 = some (.struct fs) ∧ fs.map (fun f => (f.offset, f.type)) = #[(0, 22), (1, 23), (2, 24)] := ⟨_, Try.underlying26, by simp⟩
  obtain ⟨cs, rfl, hsz⟩ := okWide_struct hfs hv
  rw [cells_pres] at hsz
  obtain ⟨n, hn⟩ := h
  obtain ⟨xs, m, _, _, hl, hlen, hf⟩ := DataW.trod_struct hfs hn
  obtain ⟨c0, c1, c2, rfl⟩ : ∃ c0 c1 c2, cs = #[c0, c1, c2] := by
    match cs, hsz with
    | ⟨[c0, c1, c2]⟩, _ => exact ⟨c0, c1, c2, rfl⟩
  have hfsz : fs.size = 3 := by have := congrArg Array.size h3; simpa using this
  have hget : ∀ i (hi : i < 3), ∃ f, fs[i]? = some f ∧ (f.offset, f.type) = (#[(0, 22), (1, 23), (2, 24)] : Array (Nat × TypeId))[i]'(by simpa using hi) := fun i hi => by
    have h1 : (fs.map (fun f => (f.offset, f.type)))[i]? = (#[(0, 22), (1, 23), (2, 24)] : Array (Nat × TypeId))[i]? := by rw [h3]
    rw [Array.getElem?_map, Array.getElem?_eq_getElem (by omega), Array.getElem?_eq_getElem (by simpa using hi)] at h1
    exact ⟨_, Array.getElem?_eq_getElem (by omega), by simpa using h1⟩
  obtain ⟨f0, g0, e0⟩ := hget 0 (by omega)
  obtain ⟨f1, g1, e1⟩ := hget 1 (by omega)
  obtain ⟨f2, g2, e2⟩ := hget 2 (by omega)
  simp only [Prod.mk.injEq, List.getElem_toArray, List.getElem_cons_zero, List.getElem_cons_succ] at e0 e1 e2
  have k0 := hf 0 f0 g0
  have k1 := hf 1 f1 g1
  have k2 := hf 2 f2 g2
  rw [e0.1, e0.2, cells_ints, List.getElem?_eq_getElem (by omega)] at k0
  rw [e1.1, e1.2, cells_rows, List.getElem?_eq_getElem (by omega)] at k1
  rw [e2.1, e2.2, show Try.prog.cellsOf 24 = 1 by kernel_rfl, List.getElem?_eq_getElem (by omega)] at k2
  obtain ⟨o, ho⟩ := open_i64s k0
  obtain ⟨q, hq⟩ := open_rows2 k1
  obtain ⟨r, hr⟩ := open_rows3 k2
  exact ⟨⟨o, q, r⟩, c0, c1, c2, rfl, ⟨ho, hq, hr⟩⟩
end

end Go.Proofs.Ytljdneobfbimiaa
