/-
  Plain: level by level a consistent presentation's tails are groups; the program's product is the reference's there, and both find the same faults.
-/
import Derived.Test.YtdfjgpioaomceaaCycExt
import Derived.Test.YtdfjgpioaomceaaCons
namespace Go.Proofs.Ytdfjgpioaomceaa

/-- vectors with zeros ahead of index i -/
def T (P : Pr) (i : Nat) (x : List Int) : Prop := Vec P.orders x ∧ ∀ k, k < i → gt x k = 0

theorem T.up {P : Pr} {i : Nat} {x : List Int} (h : T P i x) (h0 : gt x i = 0) : T P (i + 1) x := ⟨h.1, fun k hk => by
  rcases Nat.lt_succ_iff_lt_or_eq.1 hk with h1 | h1
  · exact h.2 k h1
  · rw [h1]; exact h0⟩
theorem T.down {P : Pr} {i j : Nat} {x : List Int} (h : T P j x) (hij : i ≤ j) : T P i x := ⟨h.1, fun k hk => h.2 k (by omega)⟩
theorem T.of_zeroTo {P : Pr} {i : Nat} {x : List Int} (h : Vec P.orders x) (hz : ZeroTo i x) : T P (i + 1) x := ⟨h, fun k hk => hz k (by omega)⟩
theorem T.zeros {P : Pr} (hP : Valid P) (i : Nat) : T P i (zeros P.orders.length) := ⟨zeros_vec hP, fun _ _ => gt_replicate _ _⟩
theorem T.drop {P : Pr} (hP : Valid P) {i : Nat} (hi : i < P.orders.length) {x : List Int} (h : T P i x) : T P (i + 1) (x.set i 0) := by
  have ho := hP.ord7 i hi
  refine ⟨h.1.set i 0 ⟨by omega, fun _ => by omega⟩, fun k hk => ?_⟩
  by_cases e : i = k
  · subst e; rw [gt_set_eq _ _ _ (by rw [h.1.1]; exact hi)]
  · rw [gt_set_ne _ _ _ _ e]; exact h.2 k (by omega)
theorem T.put {P : Pr} {i : Nat} {x : List Int} (h : T P (i + 1) x) {a : Int} (ha : 0 ≤ a ∧ (i < P.orders.length → a < gt P.orders i)) : T P i (x.set i a) :=
  ⟨h.1.set i a ha, fun k hk => by rw [gt_set_ne _ _ _ _ (by omega)]; exact h.2 k (by omega)⟩
theorem gt_set_if {α : Type} [Inhabited α] (l : List α) (i j : Nat) (x : α) (hj : j < l.length) : gt (l.set i x) j = if i = j then x else gt l j := by
  by_cases h : i = j
  · subst h; rw [gt_set_eq _ _ _ hj, if_pos rfl]
  · rw [gt_set_ne _ _ _ _ h, if_neg h]
theorem gt_unit (n j k : Nat) (hk : k < n) : gt (unitV n j) k = if j = k then 1 else 0 := by
  unfold unitV
  rw [gt_set_if _ _ _ _ (by simpa using hk), gt_replicate]
theorem T.unit {P : Pr} (hP : Valid P) {i j : Nat} (hij : i ≤ j) (hj : j < P.orders.length) : T P i (unitV P.orders.length j) :=
  ⟨unitV_vec hP j, fun k hk => by rw [gt_unit _ _ _ (by omega), if_neg (by omega)]⟩
theorem Vec.ext {o x y : List Int} (hx : Vec o x) (hy : Vec o y) (h : ∀ k, k < o.length → gt x k = gt y k) : x = y :=
  ext_gt (by rw [hx.1, hy.1]) (fun k hk => h k (by rw [← hx.1]; exact hk))
theorem T.top {P : Pr} (hP : Valid P) {x : List Int} (h : T P P.orders.length x) : x = Go.Proofs.Ytdfjgpioaomceaa.zeros P.orders.length :=
  Vec.ext h.1 (zeros_vec hP) (fun k hk => by rw [h.2 k hk]; exact (gt_replicate _ _).symm)

theorem rAt_T {P : Pr} (hP : Valid P) (f : Nat) : ∀ i A B, i + f = P.orders.length → Vec P.orders A → Vec P.orders B → T P i (rAt P f i A B) := by
  induction f with
  | zero => intro i A B _ _ _; exact T.zeros hP i
  | succ f ih =>
    intro i A B hi hA hB
    refine ⟨rAt_vec hP _ i A B hi hA hB, fun k hk => ?_⟩
    have ho := hP.ord7 i (by omega)
    have hAi := hA.2 i (by omega)
    have hBi := hB.2 i (by omega)
    have hl : Vec P.orders (iter (gt B i).toNat (fun l => rImgTo (rAt P f (i + 1)) (gt P.conj i) i l (zeros P.orders.length) f) (A.set i 0)) :=
      iter_inv (Vec P.orders) _ (fun y hy => rImgTo_vec hP f i hi (rAt_vec hP f) _ _ (zeros_vec hP) f (Nat.le_refl _)) _ _ (hA.set i 0 ⟨by omega, fun _ => by omega⟩)
    have vB : Vec P.orders (B.set i 0) := hB.set i 0 ⟨by omega, fun _ => by omega⟩
    have hr := ih (i + 1) _ _ (by omega) hl vB
    simp only [rAt]
    split
    · rw [gt_set_ne _ _ _ _ (by omega)]
      exact (ih (i + 1) _ _ (by omega) (hP.pv i (by omega)).1 hr.1).2 k (by omega)
    · rw [gt_set_ne _ _ _ _ (by omega)]
      exact hr.2 k (by omega)

theorem tg_T {P : Pr} (hP : Valid P) {i : Nat} {E : List Int} (hE : T P i E) {j : Nat} (hij : i ≤ j) (hj : j < P.orders.length) : T P i (tg P E j) :=
  ⟨tg_vec hP E j hE.1 hj, fun k hk => by
    have := (tgen_entries hP P.orders.length E j hE.1 hj (by omega)).1 k (by omega)
    have h2 : gt (tg P E j) k = gt E k := this
    rw [h2]; exact hE.2 k hk⟩
theorem tv_T {P : Pr} (hP : Valid P) {i : Nat} {E F : List Int} (hE : T P i E) (hF : T P i F) : T P i (tv P E F) := by
  unfold tv tvec
  rw [tvecTo_acc, hF.1.1]
  refine acc_inv (T P i) _ _ _ _ _ hE (fun y j hy _ hj h0 => tg_T hP hy ?_ (by omega))
  have : ¬ j < i := fun h => h0 (hF.2 j h)
  omega

/-- the tail at i is a group in which the relations hold, and each member is the product of its entries' powers -/
structure Lvl (P : Pr) (f i : Nat) : Prop where
  grp : GrpOn (T P i) (rAt P f i) (zeros P.orders.length)
  nf : ∀ x, T P i x → npr (rAt P f i) (unitV P.orders.length) x i (zeros P.orders.length) f = x
  rel : Holds P (T P i) (rAt P f i) (zeros P.orders.length) (unitV P.orders.length) i

theorem Lvl.top {P : Pr} (hP : Valid P) : Lvl P 0 P.orders.length := by
  have hz := T.zeros hP P.orders.length
  refine ⟨⟨⟨fun _ _ _ _ => hz, hz, fun _ _ _ _ _ _ => rfl, fun x hx => (hx.top hP).symm, fun x hx => (hx.top hP).symm⟩, fun x _ => ⟨_, hz, rfl, rfl⟩⟩, fun x hx => ?_, ⟨fun j a b => by omega, fun j a b => by omega, fun j k a b c => by omega⟩⟩
  exact (hx.top hP).symm

section
variable {P : Pr} {f i : Nat}

theorem Lvl.tv_eq (hP : Valid P) (hi : i + f = P.orders.length) (L : Lvl P f i) {E F : List Int} (hE : T P i E) (hF : T P i F) : tv P E F = rAt P f i E F := by
  have h := vd_tv hP L.grp.toMonOn (by omega) L.rel E F hE.1 hF.1 hF.2
  rw [show P.orders.length - i = f by omega, L.nf _ hE, L.nf _ hF, L.nf _ (tv_T hP hE hF)] at h
  exact h
theorem Lvl.tg_eq (hP : Valid P) (hi : i + f = P.orders.length) (L : Lvl P f i) {E : List Int} (hE : T P i E) {j : Nat} (hij : i ≤ j) (hj : j < P.orders.length) : tg P E j = rAt P f i E (unitV P.orders.length j) := by
  have h := vd_tg hP L.grp.toMonOn L.rel E j hE.1 hij hj
  rw [show P.orders.length - i = f by omega, L.nf _ hE, L.nf _ (tg_T hP hE hij hj)] at h
  exact h

theorem Lvl.iPow_eq (hP : Valid P) (hi : i + f = P.orders.length) (L : Lvl P f i) {a : List Int} (ha : T P i a) (k : Int) : iPow P a k = iter k.toNat (fun y => rAt P f i y a) (zeros P.orders.length) := by
  unfold iPow
  rw [ha.1.1]
  exact iter_congr (T P i) _ _ (fun x hx => tv_T hP hx ha) (fun x hx => L.tv_eq hP hi hx ha) _ _ (T.zeros hP i)

/-- square and multiply is the power -/
theorem rRepF_pow {S : List Int → Prop} {m : List Int → List Int → List Int} {e : List Int} (M : MonOn S m e) : ∀ (f : Nat) (out base : List Int) (k : Nat), S out → S base → k ≤ f →
    rRepF m f out base k = m out (iter k (fun y => m y base) e) := by
  intro f
  induction f with
  | zero =>
    intro out base k ho hb hk
    have : k = 0 := by omega
    subst this
    exact (M.er out ho).symm
  | succ f ih =>
    intro out base k ho hb hk
    simp only [rRepF]
    split
    · rename_i h; subst h; exact (M.er out ho).symm
    · rename_i h
      have hbb := M.cl _ _ hb hb
      have hsq : ∀ q, iter q (fun y => m y (m base base)) e = iter (2 * q) (fun y => m y base) e := by
        intro q
        induction q with
        | zero => rfl
        | succ q ihq =>
          show m (iter q (fun y => m y (m base base)) e) (m base base) = m (m (iter (2 * q) (fun y => m y base) e) base) base
          rw [ihq, M.ass _ _ _ (M.pow_cl hb M.one _) hb hb]
      by_cases hodd : k % 2 = 1
      · rw [if_pos hodd, ih _ _ _ (M.cl _ _ ho hb) hbb (by omega), hsq, M.ass _ _ _ ho hb (M.pow_cl hb M.one _)]
        congr 1
        have h1 := M.pow_add hb 1 (2 * (k / 2))
        rw [show 1 + 2 * (k / 2) = k by omega] at h1
        rw [h1]
        show m base _ = m (m e base) _
        rw [M.el base hb]
      · rw [if_neg hodd, ih _ _ _ ho hbb (by omega), hsq, show 2 * (k / 2) = k by omega]

theorem Lvl.rRep_eq (L : Lvl P f i) {a : List Int} (ha : T P i a) (k : Nat) : rRep (rAt P f i) (zeros P.orders.length) a k = iter k (fun y => rAt P f i y a) (zeros P.orders.length) := by
  unfold rRep
  rw [rRepF_pow L.grp.toMonOn k _ _ k L.grp.one ha (Nat.le_refl _)]
  exact L.grp.el _ (L.grp.toMonOn.pow_cl ha L.grp.one k)

/-- the program's inverse -/
theorem Lvl.iInv_eq (hP : Valid P) (hi : i + f = P.orders.length) (L : Lvl P f i) {a : List Int} (ha : T P i a) : T P i (iInv P a) ∧ rAt P f i a (iInv P a) = zeros P.orders.length := by
  have key : ∀ k, k ≤ P.orders.length → T P i (invTo P a k).1 ∧ T P i (invTo P a k).2 ∧ (invTo P a k).1 = rAt P f i a (invTo P a k).2 ∧ ∀ l, l < k → gt (invTo P a k).1 l = 0 := by
    intro k
    induction k with
    | zero =>
      intro _
      refine ⟨ha, by simp only [invTo]; rw [ha.1.1]; exact T.zeros hP i, ?_, fun l hl => by omega⟩
      simp only [invTo]
      rw [ha.1.1]
      exact (L.grp.er a ha).symm
    | succ k ih =>
      intro hk
      obtain ⟨h1, h2, h3, h4⟩ := ih (by omega)
      simp only [invTo]
      by_cases h0 : gt (invTo P a k).1 k = 0
      · have hm : left_ (gt P.orders k) (gt (invTo P a k).1 k) = 0 := by unfold left_; rw [if_pos h0]
        rw [hm]
        refine ⟨h1, h2, h3, fun l hl => ?_⟩
        rcases Nat.lt_succ_iff_lt_or_eq.1 hl with h | h
        · exact h4 l h
        · rw [h]; exact h0
      · have hik : i ≤ k := by
          have : ¬ k < i := fun h => h0 (h1.2 k h)
          omega
        have hR := iter_rel (fun (x y : List Int) => T P i x ∧ T P i y ∧ x = rAt P f i a y ∧ ∀ l, l < k → gt x l = 0) (fun e => tg P e k) (fun e => tg P e k) (by
          rintro x y ⟨g1, g2, g3, g4⟩
          refine ⟨tg_T hP g1 hik (by omega), tg_T hP g2 hik (by omega), ?_, fun l hl => ?_⟩
          · show tg P x k = rAt P f i a (tg P y k)
            rw [L.tg_eq hP hi g1 hik (by omega), L.tg_eq hP hi g2 hik (by omega), g3, L.grp.ass _ _ _ ha g2 (T.unit hP hik (by omega))]
          · have h5 := (tgen_entries hP P.orders.length x k g1.1 (by omega) (by omega)).1 l hl
            have h6 : gt (tg P x k) l = gt x l := h5
            show gt (tg P x k) l = 0
            rw [h6]; exact g4 l hl) (left_ (gt P.orders k) (gt (invTo P a k).1 k)) _ _ ⟨h1, h2, h3, h4⟩
        obtain ⟨g1, g2, g3, g4⟩ := hR
        refine ⟨g1, g2, g3, fun l hl => ?_⟩
        rcases Nat.lt_succ_iff_lt_or_eq.1 hl with h | h
        · exact g4 l h
        · have h7 := (iter_tg hP (invTo P a k).1 k (by omega) h1.1 h0 _ (Nat.le_refl _)).2
          rw [if_pos rfl] at h7
          rw [h]; exact h7
  obtain ⟨h1, h2, h3, h4⟩ := key P.orders.length (Nat.le_refl _)
  have he : iInv P a = (invTo P a P.orders.length).2 := by unfold iInv; rw [ha.1.1]
  rw [he]
  refine ⟨h2, ?_⟩
  rw [← h3]
  exact T.top hP ⟨h1.1, h4⟩

theorem Lvl.iConj_iff (hP : Valid P) (hi : i + f = P.orders.length) (L : Lvl P f i) {a b z : List Int} (ha : T P i a) (hb : T P i b) (hz : T P i z) : iConj P a b = z ↔ rAt P f i a b = rAt P f i b z := by
  obtain ⟨h1, h2⟩ := L.iInv_eq hP hi hb
  have hab := tv_T hP ha hb
  unfold iConj
  rw [L.tv_eq hP hi h1 hab, L.tv_eq hP hi ha hb]
  exact L.grp.solve hb h1 (L.grp.cl _ _ ha hb) hz h2

end

section
variable {P : Pr} {f i : Nat}

theorem rImage_T (hP : Valid P) (hi : i + (f + 1) = P.orders.length) (x : List Int) : T P (i + 1) (rImage P f i x) := by
  unfold rImage
  rw [rImgTo_acc]
  refine acc_inv (T P (i + 1)) _ _ _ _ _ (T.zeros hP _) (fun y j hy a b _ => ?_)
  exact rAt_T hP f (i + 1) _ _ (by omega) hy.1 ((hP.cv i (by omega)).2 (j - i - 1) (by omega)).1

theorem cj_T (hP : Valid P) {j : Nat} (hi : i < j) (hj : j < P.orders.length) : T P (i + 1) (gt (gt P.conj i) (j - i - 1)) :=
  T.of_zeroTo ((hP.cv i (by omega)).2 (j - i - 1) (by omega)).1 ((hP.cv i (by omega)).2 (j - i - 1) (by omega)).2
theorem pw_T (hP : Valid P) (hi : i < P.orders.length) : T P (i + 1) (gt P.powers i) := T.of_zeroTo (hP.pv i hi).1 (hP.pv i hi).2

theorem Lvl.iImg_eq (hP : Valid P) (hi : i + (f + 1) = P.orders.length) (L : Lvl P f (i + 1)) {x : List Int} (hx : x.length = P.orders.length) : iImg P i x = rImage P f i x := by
  unfold iImg rImage
  rw [(hP.cv i (by omega)).1, show P.orders.length - 1 - i = f by omega, hx, rImgTo_acc, rImgTo_acc]
  exact (acc_rel (fun y z : List Int => y = z ∧ T P (i + 1) y) _ _ x (i + 1) _ _ f ⟨rfl, T.zeros hP _⟩ (by
    rintro y z j ⟨rfl, hy⟩ a b _
    have hc := cj_T (i := i) hP (j := j) (by omega) (by omega)
    exact ⟨L.tv_eq hP (by omega) hy hc, tv_T hP hy hc⟩)).1

/-- both sides see the same faults at a level behind which all is well -/
theorem Lvl.iff (hP : Valid P) (hi : i + (f + 1) = P.orders.length) (L : Lvl P f (i + 1)) : ILevel P i ↔ RLevel P f i := by
  have hi1 : i + 1 + f = P.orders.length := by omega
  have e1 : ∀ J, i < J → J < P.orders.length → (ICond1 P i J ↔ RCond1 P f i J) := fun J a b => by
    unfold ICond1 RCond1
    have hc := cj_T (i := i) hP a b
    rw [L.iPow_eq hP hi1 hc, L.rRep_eq hc, L.iImg_eq hP hi (hP.pv J b).1.1]
  have e2 : ∀ J K, i < J → J < K → K < P.orders.length → (ICond2 P i J K ↔ RCond2 P f i J K) := fun J K a b c => by
    unfold ICond2 RCond2
    have h1 := cj_T (i := i) hP (j := K) (by omega) c
    have h2 := cj_T (i := i) hP (j := J) a (by omega)
    rw [L.iImg_eq hP hi (((hP.cv J (by omega)).2 (K - J - 1) (by omega)).1.1)]
    exact L.iConj_iff hP hi1 h1 h2 (rImage_T hP hi _)
  have e3 : ICond3 P i ↔ RCond3 P f i := by
    unfold ICond3 RCond3
    rw [L.iImg_eq hP hi (hP.pv i (by omega)).1.1]
  have e4 : ∀ J, i < J → J < P.orders.length → (ICond4 P i J ↔ RCond4 P f i J) := fun J a b => by
    unfold ICond4 RCond4
    have hu : T P (i + 1) (unitV P.orders.length J) := T.unit hP (by omega) b
    have h1 : iter (gt P.orders i).toNat (fun x => iImg P i x) (unitV P.orders.length J) = iter (gt P.orders i).toNat (fun x => rImage P f i x) (unitV P.orders.length J) :=
      iter_congr (Vec P.orders) _ _ (fun x hx => iImg_vec hP i (by omega) x hx) (fun x hx => L.iImg_eq hP hi hx.1) _ _ hu.1
    have h2 : T P (i + 1) (iter (gt P.orders i).toNat (fun x => rImage P f i x) (unitV P.orders.length J)) := iter_inv (T P (i + 1)) _ (fun x _ => rImage_T hP hi x) _ _ hu
    rw [h1, eq_comm, L.iConj_iff hP hi1 hu (pw_T hP (by omega)) h2, eq_comm]
  constructor
  · intro h
    exact ⟨fun J a b => (e1 J a b).1 (h.c1 J a b), fun J K a b c => (e2 J K a b c).1 (h.c2 J K a b c), e3.1 h.c3, fun J a b => (e4 J a b).1 (h.c4 J a b)⟩
  · intro h
    exact ⟨fun J a b => (e1 J a b).2 (h.c1 J a b), fun J K a b c => (e2 J K a b c).2 (h.c2 J K a b c), e3.2 h.c3, fun J a b => (e4 J a b).2 (h.c4 J a b)⟩

end
end Go.Proofs.Ytdfjgpioaomceaa
