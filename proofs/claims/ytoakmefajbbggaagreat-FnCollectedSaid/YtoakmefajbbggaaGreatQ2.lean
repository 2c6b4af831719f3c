/-
  Plain: what tgen does to single entries.
  Plain: a presentation's relations, held by members of a monoid, are kept by the reference's product and by the program's collection (von Dyck's law, without any consistency).
  Plain: the cyclic extension of a group by a root of an inner automorphism. No program is named here.
  The reference's multiplication: spec.l08At computes rAt.
  spec.IsPresentation decides the same as impl.IsPresentation.
  The reference's inverse, conjugate and power: spec.l10From, l10Inv, l10Conj, l08Repeat.
  impl.timesGenerator and impl.timesVector compute tgen and tvec in place.
-/
import Derived.Test.YtoakmefajbbggaaGreatQ1
import Derived.BigRegion
namespace Go.Proofs.YtoakmefajbbggaaGreat

/-- Keep j: entries up to j are as they were -/
theorem tvec_keep {P : Pr} (hP : Valid P) (f j : Nat) (hf : P.orders.length ≤ f + 1 + j)
    (ih : ∀ (e : List Int) (i : Nat), Vec P.orders e → i < P.orders.length → P.orders.length ≤ f + i → ∀ k, k < i → gt (tgen P f e i) k = gt e k)
    (c : List Int) (hc : Vec P.orders c) (hz : ZeroTo j c) (e : List Int) (he : Vec P.orders e) : ∀ k, k ≤ j → gt (tvec (tgen P f) e c) k = gt e k := by
  have hstep : ∀ m, m ≤ P.orders.length → Vec P.orders (tvecTo (tgen P f) c e m) ∧ ∀ k, k ≤ j → gt (tvecTo (tgen P f) c e m) k = gt e k := by
    intro m
    induction m with
    | zero => intro _; exact ⟨he, fun k _ => rfl⟩
    | succ m ihm =>
      intro hm
      obtain ⟨h1, h2⟩ := ihm (by omega)
      unfold tvecTo
      by_cases h0 : gt c m = 0
      · rw [h0]; exact ⟨h1, h2⟩
      · have hmj : ¬ m ≤ j := fun h => h0 (hz m h)
        refine iter_inv (fun y => Vec P.orders y ∧ ∀ k, k ≤ j → gt y k = gt e k) _ (fun y hy => ⟨tgen_vec hP f y m hy.1 (by omega) (by omega), fun k hk => ?_⟩) _ _ ⟨h1, h2⟩
        rw [ih y m hy.1 (by omega) (by omega) k (by omega)]; exact hy.2 k hk
  intro k hk
  exact (hstep c.length (by rw [hc.1]; omega)).2 k hk

theorem tgen_entries {P : Pr} (hP : Valid P) (f : Nat) : ∀ (e : List Int) (j : Nat), Vec P.orders e → j < P.orders.length → P.orders.length ≤ f + j →
    (∀ k, k < j → gt (tgen P f e j) k = gt e k) ∧ gt (tgen P f e j) j = if gt e j + 1 = gt P.orders j then 0 else gt e j + 1 := by
  induction f with
  | zero => intro e j _ hj hf; omega
  | succ f ih =>
    intro e j he hj hf
    have ihk : ∀ (e : List Int) (i : Nat), Vec P.orders e → i < P.orders.length → P.orders.length ≤ f + i → ∀ k, k < i → gt (tgen P f e i) k = gt e k := fun e i a b c k hk => (ih e i a b c).1 k hk
    have hl := he.1
    have hzl : j + 1 + (e.drop (j + 1)).length ≤ e.length := by simp; omega
    have hz := he.zeroed j (e.drop (j + 1)).length hzl
    have hx := he.2 j hj
    have ho := hP.ord7 j hj
    have hlz := length_zeroed e j (e.drop (j + 1)).length hzl
    obtain ⟨e2, he2⟩ : ∃ e2, e2 = (if gt e j + 1 = gt P.orders j then tvec (tgen P f) (((zeroed e j (e.drop (j + 1)).length).set j (gt e j + 1)).set j 0) (gt P.powers j) else (zeroed e j (e.drop (j + 1)).length).set j (gt e j + 1)) := ⟨_, rfl⟩
    have hvk : ∀ c, Vec P.orders c → ZeroTo j c → ∀ x, Vec P.orders x → Vec P.orders (tvec (tgen P f) x c) := fun c hc hz x hx =>
      tvec_vec hc (fun e i he hi h0 => tgen_vec hP f e i he hi (by
        have : ¬ i ≤ j := fun h => h0 (hz i h)
        omega)) hx
    have hkeep : ∀ k, k < j → gt (zeroed e j (e.drop (j + 1)).length) k = gt e k := fun k hk => by rw [gt_zeroed _ _ _ _ hzl, if_neg (by omega)]
    have h2 : Vec P.orders e2 ∧ (∀ k, k < j → gt e2 k = gt e k) ∧ gt e2 j = if gt e j + 1 = gt P.orders j then 0 else gt e j + 1 := by
      rw [he2]
      split
      · rename_i hc
        rw [List.set_set]
        have hv0 : Vec P.orders ((zeroed e j (e.drop (j + 1)).length).set j 0) := hz.set j 0 ⟨by omega, fun _ => by omega⟩
        have hk := tvec_keep hP f j (by omega) ihk _ (hP.pv j hj).1 (hP.pv j hj).2 _ hv0
        refine ⟨hvk _ (hP.pv j hj).1 (hP.pv j hj).2 _ hv0, fun k hkj => ?_, ?_⟩
        · rw [hk k (by omega), gt_set_ne _ _ _ _ (by omega)]; exact hkeep k hkj
        · rw [hk j (Nat.le_refl _), gt_set_eq _ _ _ (by omega)]
      · rename_i hc
        refine ⟨hz.set j _ ⟨by omega, fun _ => by omega⟩, fun k hkj => ?_, ?_⟩
        · rw [gt_set_ne _ _ _ _ (by omega)]; exact hkeep k hkj
        · rw [gt_set_eq _ _ _ (by omega)]
    have hstep : ∀ m, m ≤ (e.drop (j + 1)).length → Vec P.orders (tconjTo (tgen P f) (gt P.conj j) (e.drop (j + 1)) e2 m) ∧ ∀ k, k ≤ j → gt (tconjTo (tgen P f) (gt P.conj j) (e.drop (j + 1)) e2 m) k = gt e2 k := by
      intro m
      induction m with
      | zero => intro _; exact ⟨h2.1, fun k _ => rfl⟩
      | succ m ihm =>
        intro hm
        obtain ⟨h3, h4⟩ := ihm (by omega)
        have hmm : m < P.orders.length - 1 - j := by simp at hm; omega
        have hc := (hP.cv j hj).2 m hmm
        unfold tconjTo
        refine iter_inv (fun y => Vec P.orders y ∧ ∀ k, k ≤ j → gt y k = gt e2 k) _ (fun y hy => ⟨hvk _ hc.1 hc.2 _ hy.1, fun k hk => ?_⟩) _ _ ⟨h3, h4⟩
        rw [tvec_keep hP f j (by omega) ihk _ hc.1 hc.2 _ hy.1 k hk]; exact hy.2 k hk
    have hfin := hstep _ (Nat.le_refl _)
    have hdef : tgen P (f + 1) e j = tconjTo (tgen P f) (gt P.conj j) (e.drop (j + 1)) e2 (e.drop (j + 1)).length := by rw [he2]; rfl
    rw [hdef]
    exact ⟨fun k hk => by rw [hfin.2 k (by omega)]; exact h2.2.1 k hk, by rw [hfin.2 j (Nat.le_refl _)]; exact h2.2.2⟩

/-- the program's product by a generator, and by a vector -/
def tg (P : Pr) (e : List Int) (j : Nat) : List Int := tgen P P.orders.length e j
def tv (P : Pr) (e f : List Int) : List Int := tvec (tg P) e f

theorem tg_vec {P : Pr} (hP : Valid P) (e : List Int) (j : Nat) (he : Vec P.orders e) (hj : j < P.orders.length) : Vec P.orders (tg P e j) := tgen_vec hP _ e j he hj (by omega)
theorem tv_vec {P : Pr} (hP : Valid P) (e f : List Int) (he : Vec P.orders e) (hf : Vec P.orders f) : Vec P.orders (tv P e f) := tvec_vec hf (fun e j he hj _ => tg_vec hP e j he hj) he

end Go.Proofs.YtoakmefajbbggaaGreat
namespace Go.Proofs.YtoakmefajbbggaaGreat

theorem iter_add {α : Type} (f : α → α) (n k : Nat) (x : α) : iter (n + k) f x = iter n f (iter k f x) := by
  induction n with
  | zero => rw [Nat.zero_add]; rfl
  | succ n ih => rw [Nat.succ_add]; show f (iter (n + k) f x) = f (iter n f (iter k f x)); rw [ih]
theorem iter_rel {α β : Type} (R : α → β → Prop) (f : α → α) (g : β → β) (h : ∀ x y, R x y → R (f x) (g y)) (n : Nat) (x : α) (y : β) (hxy : R x y) : R (iter n f x) (iter n g y) := by
  induction n with
  | zero => exact hxy
  | succ n ih => exact h _ _ ih
theorem iter_congr {α : Type} (Q : α → Prop) (f g : α → α) (hQ : ∀ x, Q x → Q (f x)) (h : ∀ x, Q x → f x = g x) (n : Nat) (x : α) (hx : Q x) : iter n f x = iter n g x := by
  induction n with
  | zero => rfl
  | succ n ih =>
    show f (iter n f x) = g (iter n g x)
    rw [← ih]; exact h _ (iter_inv Q f hQ n x hx)

/-- a monoid on the members of S -/
structure MonOn {α : Type} (S : α → Prop) (m : α → α → α) (e : α) : Prop where
  cl : ∀ x y, S x → S y → S (m x y)
  one : S e
  ass : ∀ x y z, S x → S y → S z → m (m x y) z = m x (m y z)
  el : ∀ x, S x → m e x = x
  er : ∀ x, S x → m x e = x

/-- entries of x from index i on, each as often as it says brought to bear on out -/
def acc {α : Type} (g : α → Nat → α) (x : List Int) (i : Nat) (out : α) : Nat → α
  | 0 => out
  | k + 1 => iter (gt x (i + k)).toNat (fun y => g y (i + k)) (acc g x i out k)

theorem acc_front {α : Type} (g : α → Nat → α) (x : List Int) (i : Nat) (out : α) (k : Nat) : acc g x i out (k + 1) = acc g x (i + 1) (iter (gt x i).toNat (fun y => g y i) out) k := by
  induction k with
  | zero => rfl
  | succ k ih =>
    rw [acc, ih]
    show _ = iter (gt x (i + 1 + k)).toNat (fun y => g y (i + 1 + k)) _
    rw [show i + (k + 1) = i + 1 + k by omega]

theorem acc_inv {α : Type} (Q : α → Prop) (g : α → Nat → α) (x : List Int) (i : Nat) (out : α) (k : Nat) (ho : Q out) (h : ∀ y j, Q y → i ≤ j → j < i + k → gt x j ≠ 0 → Q (g y j)) : Q (acc g x i out k) := by
  induction k with
  | zero => exact ho
  | succ k ih =>
    have h1 := ih (fun y j hy a b c => h y j hy a (by omega) c)
    by_cases h0 : gt x (i + k) = 0
    · rw [acc, h0]; exact h1
    · exact iter_inv Q _ (fun y hy => h y (i + k) hy (by omega) (by omega) h0) _ _ h1

theorem acc_rel {α β : Type} (R : α → β → Prop) (g : α → Nat → α) (g' : β → Nat → β) (x : List Int) (i : Nat) (out : α) (out' : β) (k : Nat) (ho : R out out') (h : ∀ y z j, R y z → i ≤ j → j < i + k → gt x j ≠ 0 → R (g y j) (g' z j)) :
    R (acc g x i out k) (acc g' x i out' k) := by
  induction k with
  | zero => exact ho
  | succ k ih =>
    have h1 := ih (fun y z j hy a b c => h y z j hy a (by omega) c)
    by_cases h0 : gt x (i + k) = 0
    · rw [acc, acc, h0]; exact h1
    · exact iter_rel R _ _ (fun y z hy => h y z (i + k) hy (by omega) (by omega) h0) _ _ _ h1

theorem acc_congr {α : Type} (g : α → Nat → α) (x x' : List Int) (i : Nat) (out : α) (k : Nat) (h : ∀ j, i ≤ j → j < i + k → gt x j = gt x' j) : acc g x i out k = acc g x' i out k := by
  induction k with
  | zero => rfl
  | succ k ih => rw [acc, acc, ih (fun j a b => h j a (by omega)), h (i + k) (by omega) (by omega)]

theorem acc_zero {α : Type} (g : α → Nat → α) (x : List Int) (i : Nat) (out : α) (k : Nat) (h : ∀ j, i ≤ j → j < i + k → gt x j = 0) : acc g x i out k = out := by
  induction k with
  | zero => rfl
  | succ k ih => rw [acc, ih (fun j a b => h j a (by omega)), h (i + k) (by omega) (by omega)]; rfl

theorem acc_split {α : Type} (g : α → Nat → α) (x : List Int) (i : Nat) (out : α) (a b : Nat) : acc g x i out (a + b) = acc g x (i + a) (acc g x i out a) b := by
  induction b with
  | zero => rfl
  | succ b ih =>
    show acc g x i out ((a + b) + 1) = _
    rw [acc, acc, ih, show i + (a + b) = i + a + b by omega]

theorem rImgTo_acc (at_ : List Int → List Int → List Int) (cs : List (List Int)) (i : Nat) (x out : List Int) (k : Nat) :
    rImgTo at_ cs i x out k = acc (fun y j => at_ y (gt cs (j - i - 1))) x (i + 1) out k := by
  induction k with
  | zero => rfl
  | succ k ih => rw [rImgTo, acc, ih]; simp only [show i + 1 + k - i - 1 = k by omega]

theorem tvecTo_acc (g : List Int → Nat → List Int) (f e : List Int) (k : Nat) : tvecTo g f e k = acc g f 0 e k := by
  induction k with
  | zero => rfl
  | succ k ih => rw [tvecTo, acc, ih, Nat.zero_add]

theorem tconjTo_acc (g : List Int → Nat → List Int) (cs : List (List Int)) (e : List Int) (j : Nat) (out : List Int) (k : Nat) :
    tconjTo g cs (e.drop (j + 1)) out k = acc (fun y l => tvec g y (gt cs (l - j - 1))) e (j + 1) out k := by
  induction k with
  | zero => rfl
  | succ k ih =>
    rw [tconjTo, acc, ih]
    have : gt (e.drop (j + 1)) k = gt e (j + 1 + k) := by simp [gt]
    simp only [this, show j + 1 + k - j - 1 = k by omega]

section
variable {α : Type} {S : α → Prop} {m : α → α → α} {e : α}

/-- powers -/
theorem MonOn.pow_cl (M : MonOn S m e) {h y : α} (hh : S h) (hy : S y) (k : Nat) : S (iter k (fun y => m y h) y) := iter_inv S _ (fun y hy => M.cl y h hy hh) k y hy
theorem MonOn.pow_out (M : MonOn S m e) {h y : α} (hh : S h) (hy : S y) (k : Nat) : iter k (fun y => m y h) y = m y (iter k (fun y => m y h) e) := by
  induction k with
  | zero => exact (M.er y hy).symm
  | succ k ih =>
    show m (iter k (fun y => m y h) y) h = m y (m (iter k (fun y => m y h) e) h)
    rw [ih, M.ass y _ h hy (M.pow_cl hh M.one k) hh]
theorem MonOn.pow_add (M : MonOn S m e) {h : α} (hh : S h) (a b : Nat) : iter (a + b) (fun y => m y h) e = m (iter a (fun y => m y h) e) (iter b (fun y => m y h) e) := by
  rw [Nat.add_comm, iter_add, M.pow_out hh (M.pow_cl hh M.one a)]

/-- the product of powers of members, from index i on, k of them -/
def npr (m : α → α → α) (h : Nat → α) (x : List Int) (i : Nat) (out : α) (k : Nat) : α := acc (fun y j => m y (h j)) x i out k

theorem npr_cl (M : MonOn S m e) {h : Nat → α} {x : List Int} {i : Nat} {out : α} {k : Nat} (ho : S out) (hh : ∀ j, i ≤ j → j < i + k → S (h j)) : S (npr m h x i out k) :=
  acc_inv S _ x i out k ho (fun y j hy a b _ => M.cl y _ hy (hh j a b))

theorem npr_out (M : MonOn S m e) {h : Nat → α} {x : List Int} {i : Nat} {out : α} {k : Nat} (ho : S out) (hh : ∀ j, i ≤ j → j < i + k → S (h j)) : npr m h x i out k = m out (npr m h x i e k) := by
  induction k with
  | zero => exact (M.er out ho).symm
  | succ k ih =>
    have hh' : ∀ j, i ≤ j → j < i + k → S (h j) := fun j a b => hh j a (by omega)
    have h1 := ih hh'
    unfold npr at h1 ⊢
    rw [acc, acc, h1]
    have c1 : S (npr m h x i e k) := npr_cl M M.one hh'
    have hk := hh (i + k) (by omega) (by omega)
    unfold npr at c1
    rw [M.pow_out hk (M.cl _ _ ho c1), M.pow_out hk c1, M.ass _ _ _ ho c1 (M.pow_cl hk M.one _)]

theorem npr_front (M : MonOn S m e) {h : Nat → α} {x : List Int} {i : Nat} {k : Nat} (hh : ∀ j, i ≤ j → j < i + (k + 1) → S (h j)) :
    npr m h x i e (k + 1) = m (iter (gt x i).toNat (fun y => m y (h i)) e) (npr m h x (i + 1) e k) := by
  have h1 : npr m h x i e (k + 1) = npr m h x (i + 1) (iter (gt x i).toNat (fun y => m y (h i)) e) k := acc_front _ x i e k
  rw [h1]
  exact npr_out M (M.pow_cl (hh i (by omega) (by omega)) M.one _) (fun j a b => hh j (by omega) (by omega))

/-- members h hold the relations of a presentation from index i on -/
structure Holds (P : Pr) (S : α → Prop) (m : α → α → α) (e : α) (h : Nat → α) (i : Nat) : Prop where
  mem : ∀ j, i ≤ j → j < P.orders.length → S (h j)
  pw : ∀ j, i ≤ j → j < P.orders.length → iter (gt P.orders j).toNat (fun y => m y (h j)) e = npr m h (gt P.powers j) (j + 1) e (P.orders.length - (j + 1))
  cj : ∀ j k, i ≤ j → j < k → k < P.orders.length → m (h k) (h j) = m (h j) (npr m h (gt (gt P.conj j) (k - j - 1)) (j + 1) e (P.orders.length - (j + 1)))

theorem Holds.up {P : Pr} {h : Nat → α} {i i' : Nat} (H : Holds P S m e h i) (hi : i ≤ i') : Holds P S m e h i' :=
  ⟨fun j a b => H.mem j (by omega) b, fun j a b => H.pw j (by omega) b, fun j k a b c => H.cj j k (by omega) b c⟩

/-- the image behind a generator -/
theorem vd_image {P : Pr} (hP : Valid P) (M : MonOn S m e) {h : Nat → α} {i f : Nat} (hi : i + (f + 1) = P.orders.length) (H : Holds P S m e h i)
    (ih : ∀ A B, Vec P.orders A → Vec P.orders B → npr m h (rAt P f (i + 1) A B) (i + 1) e f = m (npr m h A (i + 1) e f) (npr m h B (i + 1) e f)) (x : List Int) :
    m (npr m h x (i + 1) e f) (h i) = m (h i) (npr m h (rImage P f i x) (i + 1) e f) := by
  have hm : ∀ j, i ≤ j → j < P.orders.length → S (h j) := H.mem
  have hN : ∀ y, S (npr m h y (i + 1) e f) := fun y => npr_cl M M.one (fun j a b => hm j (by omega) (by omega))
  unfold rImage
  rw [rImgTo_acc]
  have hsi := hm i (by omega) (by omega)
  have hR : (fun (y : α) (z : List Int) => S y ∧ Vec P.orders z ∧ m y (h i) = m (h i) (npr m h z (i + 1) e f)) (npr m h x (i + 1) e f)
      (acc (fun y j => rAt P f (i + 1) y (gt (gt P.conj i) (j - i - 1))) x (i + 1) (zeros P.orders.length) f) := by
    unfold npr
    refine acc_rel (fun (y : α) (z : List Int) => S y ∧ Vec P.orders z ∧ m y (h i) = m (h i) (npr m h z (i + 1) e f)) _ _ x (i + 1) _ _ f ⟨M.one, zeros_vec hP, ?_⟩ ?_
    · have h0 : npr m h (zeros P.orders.length) (i + 1) e f = e := acc_zero _ _ _ _ _ (fun j _ _ => gt_replicate _ _)
      rw [h0, M.el _ hsi, M.er _ hsi]
    · rintro y z j ⟨h1, h2, h3⟩ a b _
      have hc := (hP.cv i (by omega)).2 (j - i - 1) (by omega)
      have hj := hm j (by omega) (by omega)
      refine ⟨M.cl _ _ h1 hj, rAt_vec hP f _ _ _ (by omega) h2 hc.1, ?_⟩
      have h4 := ih z _ h2 hc.1
      have h5 := H.cj i j (by omega) (by omega) (by omega)
      have hf : P.orders.length - (i + 1) = f := by omega
      rw [hf] at h5
      have c1 := hN z
      have c2 := hN (gt (gt P.conj i) (j - i - 1))
      unfold npr at h3 h4 h5 c1 c2 ⊢
      rw [h4, M.ass _ _ _ h1 hj hsi, h5, ← M.ass _ _ _ h1 hsi c2, h3, M.ass _ _ _ hsi c1 c2]
  exact hR.2.2

/-- von Dyck's law for the reference's product -/
theorem vd_at {P : Pr} (hP : Valid P) (M : MonOn S m e) {h : Nat → α} (f : Nat) : ∀ (i : Nat), i + f = P.orders.length → Holds P S m e h i → ∀ A B, Vec P.orders A → Vec P.orders B →
    npr m h (rAt P f i A B) i e f = m (npr m h A i e f) (npr m h B i e f) := by
  induction f with
  | zero => intro i _ _ A B _ _; exact (M.el e M.one).symm
  | succ f ih =>
    intro i hi H A B hA hB
    have IH := ih (i + 1) (by omega) (H.up (by omega))
    have hm : ∀ j, i ≤ j → j < P.orders.length → S (h j) := H.mem
    have hN : ∀ y, S (npr m h y (i + 1) e f) := fun y => npr_cl M M.one (fun j a b => hm j (by omega) (by omega))
    have hsi := hm i (by omega) (by omega)
    have hW : ∀ k, S (iter k (fun y => m y (h i)) e) := fun k => M.pow_cl hsi M.one k
    have him := vd_image hP M hi H IH
    have hset : ∀ (y : List Int) (c : Int), npr m h (y.set i c) (i + 1) e f = npr m h y (i + 1) e f := fun y c =>
      acc_congr _ _ _ _ _ _ (fun j a _ => gt_set_ne _ _ _ _ (by omega))
    have hfr : ∀ y, npr m h y i e (f + 1) = m (iter (gt y i).toNat (fun y => m y (h i)) e) (npr m h y (i + 1) e f) := fun y => npr_front M (fun j a b => hm j a (by omega))
    have ho := hP.ord7 i (by omega)
    have hAi := hA.2 i (by omega)
    have hBi := hB.2 i (by omega)
    -- the left factor drawn through
    have hleft : ∀ b : Nat, Vec P.orders (iter b (fun l => rImgTo (rAt P f (i + 1)) (gt P.conj i) i l (zeros P.orders.length) f) (A.set i 0)) ∧
        m (npr m h A (i + 1) e f) (iter b (fun y => m y (h i)) e) = m (iter b (fun y => m y (h i)) e) (npr m h (iter b (fun l => rImgTo (rAt P f (i + 1)) (gt P.conj i) i l (zeros P.orders.length) f) (A.set i 0)) (i + 1) e f) := by
      intro b
      induction b with
      | zero =>
        refine ⟨hA.set i 0 ⟨by omega, fun _ => by omega⟩, ?_⟩
        show m _ e = m e (npr m h (A.set i 0) (i + 1) e f)
        rw [hset, M.er _ (hN A), M.el _ (hN A)]
      | succ b ihb =>
        obtain ⟨v1, e1⟩ := ihb
        have v2 : Vec P.orders (rImgTo (rAt P f (i + 1)) (gt P.conj i) i (iter b (fun l => rImgTo (rAt P f (i + 1)) (gt P.conj i) i l (zeros P.orders.length) f) (A.set i 0)) (zeros P.orders.length) f) :=
          rImgTo_vec hP f i hi (rAt_vec hP f) _ _ (zeros_vec hP) f (Nat.le_refl _)
        refine ⟨v2, ?_⟩
        have e2 := him (iter b (fun l => rImgTo (rAt P f (i + 1)) (gt P.conj i) i l (zeros P.orders.length) f) (A.set i 0))
        show m _ (m (iter b (fun y => m y (h i)) e) (h i)) = m (m (iter b (fun y => m y (h i)) e) (h i)) (npr m h (rImage P f i _) (i + 1) e f)
        rw [← M.ass _ _ _ (hN A) (hW b) hsi, e1, M.ass _ _ _ (hW b) (hN _) hsi, e2, ← M.ass _ _ _ (hW b) hsi (hN _)]
    obtain ⟨vl, el⟩ := hleft (gt B i).toNat
    have vB : Vec P.orders (B.set i 0) := hB.set i 0 ⟨by omega, fun _ => by omega⟩
    have er := IH _ _ vl vB
    rw [hset B 0] at er
    have vr := rAt_vec hP f (i + 1) _ _ (by omega) vl vB
    rw [hfr A, hfr B]
    -- both sides to one form
    have key : m (m (iter (gt A i).toNat (fun y => m y (h i)) e) (npr m h A (i + 1) e f)) (m (iter (gt B i).toNat (fun y => m y (h i)) e) (npr m h B (i + 1) e f)) =
        m (iter ((gt A i).toNat + (gt B i).toNat) (fun y => m y (h i)) e) (npr m h (rAt P f (i + 1) (iter (gt B i).toNat (fun l => rImgTo (rAt P f (i + 1)) (gt P.conj i) i l (zeros P.orders.length) f) (A.set i 0)) (B.set i 0)) (i + 1) e f) := by
      rw [er, M.pow_add hsi, M.ass _ _ _ (hW _) (hN _) (M.cl _ _ (hW _) (hN _)), ← M.ass _ _ _ (hN A) (hW _) (hN _), el, M.ass _ _ _ (hW _) (hN _) (hN _), ← M.ass _ _ _ (hW _) (hW _) (M.cl _ _ (hN _) (hN _))]
    rw [key, hfr]
    simp only [rAt]
    by_cases hc : gt P.orders i ≤ gt A i + gt B i
    · rw [if_pos hc]
      have vp := (hP.pv i (by omega)).1
      have v3 := rAt_vec hP f (i + 1) _ _ (by omega) vp vr
      rw [hset, gt_set_eq _ _ _ (by rw [v3.1]; omega), IH _ _ vp vr]
      have hsum : (gt A i).toNat + (gt B i).toNat = (gt A i + gt B i - gt P.orders i).toNat + (gt P.orders i).toNat := by omega
      rw [hsum, M.pow_add hsi, H.pw i (by omega) (by omega), show P.orders.length - (i + 1) = f by omega, M.ass _ _ _ (hW _) (hN _) (hN _)]
    · rw [if_neg hc, hset, gt_set_eq _ _ _ (by rw [vr.1]; omega)]
      have hsum : (gt A i).toNat + (gt B i).toNat = (gt A i + gt B i).toNat := by omega
      rw [hsum]

/-- a product in three pieces: ahead of index j, at j, behind j -/
theorem npr_three (M : MonOn S m e) {h : Nat → α} {y : List Int} {i j n : Nat} (hij : i ≤ j) (hj : j < n) (hh : ∀ l, i ≤ l → l < n → S (h l)) :
    npr m h y i e (n - i) = m (m (npr m h y i e (j - i)) (iter (gt y j).toNat (fun y => m y (h j)) e)) (npr m h y (j + 1) e (n - (j + 1))) := by
  have h1 : npr m h y i e (n - i) = npr m h y (j + 1) (iter (gt y j).toNat (fun y => m y (h j)) (npr m h y i e (j - i))) (n - (j + 1)) := by
    unfold npr
    rw [show n - i = (j - i) + ((n - (j + 1)) + 1) by omega, acc_split, acc_front, show i + (j - i) = j by omega]
  have c1 : S (npr m h y i e (j - i)) := npr_cl M M.one (fun l a b => hh l a (by omega))
  rw [h1, npr_out M (M.pow_cl (hh j hij hj) c1 _) (fun l a b => hh l (by omega) (by omega)), M.pow_out (hh j hij hj) c1]

/-- von Dyck's law for the program's collection -/
theorem vd_gen {P : Pr} (hP : Valid P) (M : MonOn S m e) {h : Nat → α} {i : Nat} (H : Holds P S m e h i) (f : Nat) : ∀ (E : List Int) (j : Nat), Vec P.orders E → i ≤ j → j < P.orders.length → P.orders.length ≤ f + j →
    npr m h (tgen P f E j) i e (P.orders.length - i) = m (npr m h E i e (P.orders.length - i)) (h j) := by
  have hm : ∀ j, i ≤ j → j < P.orders.length → S (h j) := H.mem
  have hN : ∀ y, S (npr m h y i e (P.orders.length - i)) := fun y => npr_cl M M.one (fun j a b => hm j a (by omega))
  induction f with
  | zero => intro E j _ _ hj hf; omega
  | succ f ih =>
    intro E j hE hij hj hf
    have hsj := hm j hij hj
    have hT : ∀ y, S (npr m h y (j + 1) e (P.orders.length - (j + 1))) := fun y => npr_cl M M.one (fun l a b => hm l (by omega) (by omega))
    have hpre : ∀ y, S (npr m h y i e (j - i)) := fun y => npr_cl M M.one (fun l a b => hm l a (by omega))
    have hW : ∀ k, S (iter k (fun y => m y (h j)) e) := fun k => M.pow_cl hsj M.one k
    have hvk : ∀ c, Vec P.orders c → ZeroTo j c → ∀ x, Vec P.orders x → Vec P.orders (tvec (tgen P f) x c) := fun c hc hz x hx =>
      tvec_vec hc (fun e i he hi h0 => tgen_vec hP f e i he hi (by
        have : ¬ i ≤ j := fun h => h0 (hz i h)
        omega)) hx
    have hvm : ∀ c, Vec P.orders c → ZeroTo j c → ∀ x, Vec P.orders x →
        npr m h (tvec (tgen P f) x c) i e (P.orders.length - i) = m (npr m h x i e (P.orders.length - i)) (npr m h c (j + 1) e (P.orders.length - (j + 1))) := by
      intro c hc hz x hx
      unfold tvec
      rw [tvecTo_acc, hc.1, show P.orders.length = (j + 1) + (P.orders.length - (j + 1)) by omega, acc_split, acc_zero (tgen P f) c 0 x (j + 1) (fun l _ b => hz l (by omega)), show 0 + (j + 1) = j + 1 by omega,
        show (j + 1) + (P.orders.length - (j + 1)) = P.orders.length by omega]
      have hR := acc_rel (fun (y : α) (z : List Int) => S y ∧ Vec P.orders z ∧ npr m h z i e (P.orders.length - i) = y) (fun y l => m y (h l)) (tgen P f) c (j + 1) (npr m h x i e (P.orders.length - i)) x (P.orders.length - (j + 1))
        ⟨hN x, hx, rfl⟩ (by
          rintro y z l ⟨h1, h2, h3⟩ a b _
          refine ⟨M.cl _ _ h1 (hm l (by omega) (by omega)), tgen_vec hP f z l h2 (by omega) (by omega), ?_⟩
          rw [ih z l h2 (by omega) (by omega) (by omega), h3])
      rw [hR.2.2]
      exact npr_out M (hN x) (fun l a b => hm l (by omega) (by omega))
    have hl := hE.1
    have hzl : j + 1 + (E.drop (j + 1)).length ≤ E.length := by simp; omega
    have hz := hE.zeroed j (E.drop (j + 1)).length hzl
    have hx := hE.2 j hj
    have ho := hP.ord7 j hj
    have hlz := length_zeroed E j (E.drop (j + 1)).length hzl
    have hN3 : ∀ c : Int, npr m h ((zeroed E j (E.drop (j + 1)).length).set j c) i e (P.orders.length - i) = m (npr m h E i e (j - i)) (iter c.toNat (fun y => m y (h j)) e) := by
      intro c
      rw [npr_three M hij hj hm, gt_set_eq _ _ _ (by omega)]
      have e1 : npr m h ((zeroed E j (E.drop (j + 1)).length).set j c) i e (j - i) = npr m h E i e (j - i) :=
        acc_congr _ _ _ _ _ _ (fun l a b => by rw [gt_set_ne _ _ _ _ (by omega), gt_zeroed _ _ _ _ hzl, if_neg (by omega)])
      have e2 : npr m h ((zeroed E j (E.drop (j + 1)).length).set j c) (j + 1) e (P.orders.length - (j + 1)) = e :=
        acc_zero _ _ _ _ _ (fun l a b => by
          rw [gt_set_ne _ _ _ _ (by omega), gt_zeroed _ _ _ _ hzl, if_pos ⟨by omega, by simp; omega⟩])
      rw [e1, e2, M.er _ (M.cl _ _ (hpre E) (hW _))]
    obtain ⟨e2, he2⟩ : ∃ e2, e2 = (if gt E j + 1 = gt P.orders j then tvec (tgen P f) (((zeroed E j (E.drop (j + 1)).length).set j (gt E j + 1)).set j 0) (gt P.powers j) else (zeroed E j (E.drop (j + 1)).length).set j (gt E j + 1)) := ⟨_, rfl⟩
    have h2 : Vec P.orders e2 ∧ npr m h e2 i e (P.orders.length - i) = m (m (npr m h E i e (j - i)) (iter (gt E j).toNat (fun y => m y (h j)) e)) (h j) := by
      have hs : m (npr m h E i e (j - i)) (iter (gt E j + 1).toNat (fun y => m y (h j)) e) = m (m (npr m h E i e (j - i)) (iter (gt E j).toNat (fun y => m y (h j)) e)) (h j) := by
        rw [show (gt E j + 1).toNat = (gt E j).toNat + 1 by omega]
        exact (M.ass _ _ _ (hpre E) (hW _) hsj).symm
      rw [he2]
      split
      · rename_i hc
        rw [List.set_set]
        have hv0 : Vec P.orders ((zeroed E j (E.drop (j + 1)).length).set j 0) := hz.set j 0 ⟨by omega, fun _ => by omega⟩
        refine ⟨hvk _ (hP.pv j hj).1 (hP.pv j hj).2 _ hv0, ?_⟩
        rw [hvm _ (hP.pv j hj).1 (hP.pv j hj).2 _ hv0, hN3, ← H.pw j hij hj, ← hs, hc]
        show m (m _ e) _ = _
        rw [M.er _ (hpre E)]
      · rename_i hc
        exact ⟨hz.set j _ ⟨by omega, fun _ => by omega⟩, by rw [hN3, hs]⟩
    have hdef : tgen P (f + 1) E j = tconjTo (tgen P f) (gt P.conj j) (E.drop (j + 1)) e2 (E.drop (j + 1)).length := by rw [he2]; rfl
    have hdl : (E.drop (j + 1)).length = P.orders.length - (j + 1) := by simp; omega
    rw [hdef, tconjTo_acc, hdl]
    have cQ : S (m (npr m h E i e (j - i)) (iter (gt E j).toNat (fun y => m y (h j)) e)) := M.cl _ _ (hpre E) (hW _)
    have hR := acc_rel (fun (y : α) (z : List Int) => S y ∧ Vec P.orders z ∧ npr m h z i e (P.orders.length - i) = m (m (m (npr m h E i e (j - i)) (iter (gt E j).toNat (fun y => m y (h j)) e)) y) (h j))
      (fun y l => m y (h l)) (fun y l => tvec (tgen P f) y (gt (gt P.conj j) (l - j - 1))) E (j + 1) e e2 (P.orders.length - (j + 1))
      ⟨M.one, h2.1, by rw [h2.2, M.er _ cQ]⟩ (by
        rintro y z l ⟨h3, h4, h5⟩ a b _
        have hc := (hP.cv j hj).2 (l - j - 1) (by omega)
        have hsl := hm l (by omega) (by omega)
        refine ⟨M.cl _ _ h3 hsl, hvk _ hc.1 hc.2 _ h4, ?_⟩
        rw [hvm _ hc.1 hc.2 _ h4, h5, M.ass _ _ _ (M.cl _ _ cQ h3) hsj (hT _), ← H.cj j l hij (by omega) (by omega), ← M.ass _ _ _ (M.cl _ _ cQ h3) hsl hsj, M.ass _ _ _ cQ h3 hsl])
    rw [hR.2.2, npr_three M hij hj hm (y := E)]
    rfl

theorem vd_tg {P : Pr} (hP : Valid P) (M : MonOn S m e) {h : Nat → α} {i : Nat} (H : Holds P S m e h i) (E : List Int) (j : Nat) (hE : Vec P.orders E) (hij : i ≤ j) (hj : j < P.orders.length) :
    npr m h (tg P E j) i e (P.orders.length - i) = m (npr m h E i e (P.orders.length - i)) (h j) := vd_gen hP M H _ E j hE hij hj (by omega)

theorem vd_tv {P : Pr} (hP : Valid P) (M : MonOn S m e) {h : Nat → α} {i : Nat} (hi : i ≤ P.orders.length) (H : Holds P S m e h i) (E F : List Int) (hE : Vec P.orders E) (hF : Vec P.orders F) (hz : ∀ k, k < i → gt F k = 0) :
    npr m h (tv P E F) i e (P.orders.length - i) = m (npr m h E i e (P.orders.length - i)) (npr m h F i e (P.orders.length - i)) := by
  have hm : ∀ j, i ≤ j → j < P.orders.length → S (h j) := H.mem
  have hN : ∀ y, S (npr m h y i e (P.orders.length - i)) := fun y => npr_cl M M.one (fun j a b => hm j a (by omega))
  unfold tv tvec
  rw [tvecTo_acc, hF.1, show P.orders.length = i + (P.orders.length - i) by omega, acc_split, acc_zero (tg P) F 0 E i (fun l _ b => hz l (by omega)), show 0 + i = i by omega,
    show i + (P.orders.length - i) = P.orders.length by omega]
  have hR := acc_rel (fun (y : α) (z : List Int) => S y ∧ Vec P.orders z ∧ npr m h z i e (P.orders.length - i) = y) (fun y l => m y (h l)) (tg P) F i (npr m h E i e (P.orders.length - i)) E (P.orders.length - i)
    ⟨hN E, hE, rfl⟩ (by
      rintro y z l ⟨h1, h2, h3⟩ a b _
      refine ⟨M.cl _ _ h1 (hm l (by omega) (by omega)), tg_vec hP z l h2 (by omega), ?_⟩
      rw [vd_tg hP M H z l h2 (by omega) (by omega), h3])
  rw [hR.2.2]
  exact npr_out M (hN E) (fun l a b => hm l (by omega) (by omega))

end

end Go.Proofs.YtoakmefajbbggaaGreat
namespace Go.Proofs.YtoakmefajbbggaaGreat

/-- a group on the members of S -/
structure GrpOn {α : Type} (S : α → Prop) (m : α → α → α) (e : α) : Prop extends MonOn S m e where
  inv : ∀ x, S x → ∃ y, S y ∧ m x y = e ∧ m y x = e

section
variable {α : Type} {S : α → Prop} {m : α → α → α} {e : α}

theorem GrpOn.of_right (M : MonOn S m e) (h : ∀ x, S x → ∃ y, S y ∧ m x y = e) : GrpOn S m e := by
  refine ⟨M, fun x hx => ?_⟩
  obtain ⟨y, hy, h1⟩ := h x hx
  obtain ⟨z, hz, h2⟩ := h y hy
  have : x = z := by
    have h3 : m (m x y) z = m x (m y z) := M.ass x y z hx hy hz
    rw [h1, h2, M.el z hz, M.er x hx] at h3
    exact h3.symm
  exact ⟨y, hy, h1, by rw [this]; exact h2⟩

theorem GrpOn.cancel (G : GrpOn S m e) {a x y : α} (ha : S a) (hx : S x) (hy : S y) (h : m a x = m a y) : x = y := by
  obtain ⟨b, hb, _, h2⟩ := G.inv a ha
  have h3 : m b (m a x) = m b (m a y) := by rw [h]
  rw [← G.ass b a x hb ha hx, ← G.ass b a y hb ha hy, h2, G.el x hx, G.el y hy] at h3
  exact h3

theorem GrpOn.right_left (G : GrpOn S m e) {a b : α} (ha : S a) (hb : S b) (h : m a b = e) : m b a = e := by
  obtain ⟨c, hc, h1, h2⟩ := G.inv a ha
  have : b = c := G.cancel ha hb hc (by rw [h, h1])
  rw [this]; exact h2

/-- b a = x with b the inverse of a: y = a⁻¹ x, as a product -/
theorem GrpOn.solve (G : GrpOn S m e) {a b x y : α} (ha : S a) (hb : S b) (hx : S x) (hy : S y) (hab : m a b = e) : m b x = y ↔ x = m a y := by
  have hba := G.right_left ha hb hab
  constructor
  · intro h; rw [← h, ← G.ass a b x ha hb hx, hab, G.el x hx]
  · intro h; rw [h, ← G.ass b a y hb ha hy, hba, G.el y hy]

/-- the product of pairs -/
def exm (m : α → α → α) (φ : α → α) (w : α) (o : Nat) (p q : Nat × α) : Nat × α :=
  if o ≤ p.1 + q.1 then (p.1 + q.1 - o, m w (m (iter q.1 φ p.2) q.2)) else (p.1 + q.1, m (iter q.1 φ p.2) q.2)

/-- what a cyclic extension needs -/
structure ExtOk (S : α → Prop) (m : α → α → α) (e : α) (φ : α → α) (w : α) (o : Nat) : Prop where
  o2 : 2 ≤ o
  grp : GrpOn S m e
  cl : ∀ x, S x → S (φ x)
  hom : ∀ x y, S x → S y → φ (m x y) = m (φ x) (φ y)
  wS : S w
  wφ : φ w = w
  root : ∀ x, S x → m w (iter o φ x) = m x w

variable {φ : α → α} {w : α} {o : Nat}

theorem ExtOk.icl (E : ExtOk S m e φ w o) (k : Nat) (x : α) (hx : S x) : S (iter k φ x) := iter_inv S φ E.cl k x hx
theorem ExtOk.ihom (E : ExtOk S m e φ w o) (k : Nat) (x y : α) (hx : S x) (hy : S y) : iter k φ (m x y) = m (iter k φ x) (iter k φ y) := by
  induction k with
  | zero => rfl
  | succ k ih => show φ (iter k φ (m x y)) = _; rw [ih]; exact E.hom _ _ (E.icl k x hx) (E.icl k y hy)
theorem ExtOk.iw (E : ExtOk S m e φ w o) (k : Nat) : iter k φ w = w := by
  induction k with
  | zero => rfl
  | succ k ih => show φ (iter k φ w) = w; rw [ih]; exact E.wφ
theorem ExtOk.one (E : ExtOk S m e φ w o) : φ e = e := by
  have h := E.hom e e E.grp.one E.grp.one
  rw [E.grp.el e E.grp.one] at h
  have c := E.cl e E.grp.one
  exact (E.grp.cancel c E.grp.one c (by rw [E.grp.er _ c]; exact h)).symm
theorem ExtOk.ione (E : ExtOk S m e φ w o) (k : Nat) : iter k φ e = e := by
  induction k with
  | zero => rfl
  | succ k ih => show φ (iter k φ e) = e; rw [ih]; exact E.one
/-- drawing w through -/
theorem ExtOk.draw (E : ExtOk S m e φ w o) (k : Nat) (hk : o ≤ k) (x : α) (hx : S x) : m (iter (k - o) φ x) w = m w (iter k φ x) := by
  rw [← E.root _ (E.icl _ x hx), ← iter_add, show o + (k - o) = k by omega]

/-- the pairs' set -/
def ExS (S : α → Prop) (o : Nat) (p : Nat × α) : Prop := p.1 < o ∧ S p.2

theorem ExtOk.exm_cl (E : ExtOk S m e φ w o) (p q : Nat × α) (hp : ExS S o p) (hq : ExS S o q) : ExS S o (exm m φ w o p q) := by
  obtain ⟨a, x⟩ := p
  obtain ⟨b, y⟩ := q
  obtain ⟨ha, hx⟩ := hp
  obtain ⟨hb, hy⟩ := hq
  have c := E.grp.cl _ _ (E.icl b x hx) hy
  simp only at ha hb hx hy
  unfold exm
  simp only
  split
  · exact ⟨by show a + b - o < o; omega, E.grp.cl _ _ E.wS c⟩
  · exact ⟨by show a + b < o; omega, c⟩

theorem ExtOk.exm_ass (E : ExtOk S m e φ w o) (p q r : Nat × α) (hp : ExS S o p) (hq : ExS S o q) (hr : ExS S o r) : exm m φ w o (exm m φ w o p q) r = exm m φ w o p (exm m φ w o q r) := by
  obtain ⟨a, x⟩ := p
  obtain ⟨b, y⟩ := q
  obtain ⟨c, z⟩ := r
  obtain ⟨ha, hx⟩ := hp
  obtain ⟨hb, hy⟩ := hq
  obtain ⟨hc, hz⟩ := hr
  simp only at ha hb hc hx hy hz
  have M := E.grp.toMonOn
  have cw := E.wS
  have c1 := E.icl b x hx
  have c2 := E.icl c _ c1
  have c3 := E.icl c y hy
  have c4 := M.cl _ _ c1 hy
  have c5 := M.cl _ _ c3 hz
  -- the left side's inner part, and the right side's
  have hL : iter c φ (m (iter b φ x) y) = m (iter c φ (iter b φ x)) (iter c φ y) := E.ihom c _ _ c1 hy
  have hLw : iter c φ (m w (m (iter b φ x) y)) = m w (m (iter c φ (iter b φ x)) (iter c φ y)) := by rw [E.ihom c _ _ cw c4, E.iw, hL]
  have hbc : iter (b + c) φ x = iter c φ (iter b φ x) := by rw [Nat.add_comm, iter_add]
  have c6 := M.cl _ _ c2 c3
  have hK : m (m (iter c φ (iter b φ x)) (iter c φ y)) z = m (iter c φ (iter b φ x)) (m (iter c φ y) z) := M.ass _ _ _ c2 c3 hz
  have hKw : m (m w (m (iter c φ (iter b φ x)) (iter c φ y))) z = m w (m (iter c φ (iter b φ x)) (m (iter c φ y) z)) := by rw [M.ass _ _ _ cw c6 hz, hK]
  have hR : o ≤ b + c → m (iter (b + c - o) φ x) (m w (m (iter c φ y) z)) = m w (m (iter c φ (iter b φ x)) (m (iter c φ y) z)) := by
    intro h
    rw [← M.ass _ _ _ (E.icl _ x hx) cw c5, E.draw _ h x hx, hbc, M.ass _ _ _ cw c2 c5]
  unfold exm
  by_cases e1 : o ≤ a + b
  · by_cases d1 : o ≤ b + c
    · simp only [if_pos e1, if_pos d1]
      by_cases e2 : o ≤ a + b - o + c
      · have d2 : o ≤ a + (b + c - o) := by omega
        simp only [if_pos e2, if_pos d2]
        rw [hLw, hKw, hR d1, show a + b - o + c - o = a + (b + c - o) - o by omega]
      · have d2 : ¬ o ≤ a + (b + c - o) := by omega
        simp only [if_neg e2, if_neg d2]
        rw [hLw, hKw, hR d1, show a + b - o + c = a + (b + c - o) by omega]
    · simp only [if_pos e1, if_neg d1]
      have e2 : ¬ o ≤ a + b - o + c := by omega
      have d2 : o ≤ a + (b + c) := by omega
      simp only [if_neg e2, if_pos d2]
      rw [hLw, hKw, hbc, show a + b - o + c = a + (b + c) - o by omega]
  · by_cases d1 : o ≤ b + c
    · simp only [if_neg e1, if_pos d1]
      have e2 : o ≤ a + b + c := by omega
      have d2 : ¬ o ≤ a + (b + c - o) := by omega
      simp only [if_pos e2, if_neg d2]
      rw [hL, hK, hR d1, show a + b + c - o = a + (b + c - o) by omega]
    · simp only [if_neg e1, if_neg d1]
      by_cases e2 : o ≤ a + b + c
      · have d2 : o ≤ a + (b + c) := by omega
        simp only [if_pos e2, if_pos d2]
        rw [hL, hK, hbc, show a + b + c - o = a + (b + c) - o by omega]
      · have d2 : ¬ o ≤ a + (b + c) := by omega
        simp only [if_neg e2, if_neg d2]
        rw [hL, hK, hbc, show a + b + c = a + (b + c) by omega]

/-- the extension is a group -/
theorem ExtOk.group (E : ExtOk S m e φ w o) : GrpOn (ExS S o) (exm m φ w o) (0, e) := by
  have M := E.grp.toMonOn
  have ho := E.o2
  have hM : MonOn (ExS S o) (exm m φ w o) (0, e) := by
    refine ⟨E.exm_cl, ⟨by show 0 < o; omega, M.one⟩, E.exm_ass, ?_, ?_⟩
    · rintro ⟨a, x⟩ ⟨ha, hx⟩
      simp only at ha hx
      unfold exm
      simp only [Nat.zero_add, if_neg (by omega : ¬ o ≤ a), E.ione, M.el x hx]
    · rintro ⟨a, x⟩ ⟨ha, hx⟩
      simp only at ha hx
      unfold exm
      simp only [Nat.add_zero, if_neg (by omega : ¬ o ≤ a)]
      show (a, m x e) = (a, x)
      rw [M.er x hx]
  refine GrpOn.of_right hM ?_
  rintro ⟨a, x⟩ ⟨ha, hx⟩
  simp only at ha hx
  by_cases h0 : a = 0
  · subst h0
    obtain ⟨y, hy, h1, _⟩ := E.grp.inv x hx
    refine ⟨(0, y), ⟨by show 0 < o; omega, hy⟩, ?_⟩
    unfold exm
    simp only [Nat.add_zero, if_neg (by omega : ¬ o ≤ 0)]
    show (0, m x y) = (0, e)
    rw [h1]
  · obtain ⟨y, hy, h1, _⟩ := E.grp.inv _ (M.cl _ _ E.wS (E.icl (o - a) x hx))
    refine ⟨(o - a, y), ⟨by show o - a < o; omega, hy⟩, ?_⟩
    unfold exm
    simp only [if_pos (by omega : o ≤ a + (o - a))]
    rw [← M.ass _ _ _ E.wS (E.icl _ x hx) hy, h1, show a + (o - a) - o = 0 by omega]

/-- a group carried over to another set of names -/
theorem GrpOn.carry {β : Type} {S' : β → Prop} {m' : β → β → β} {e' : β} (G : GrpOn S m e) (f : α → β) (hS : ∀ x, S x → S' (f x)) (hsur : ∀ y, S' y → ∃ x, S x ∧ f x = y) (he : f e = e')
    (hm : ∀ x y, S x → S y → m' (f x) (f y) = f (m x y)) : GrpOn S' m' e' := by
  subst he
  refine ⟨⟨?_, hS e G.one, ?_, ?_, ?_⟩, ?_⟩
  · intro x y hx hy
    obtain ⟨a, ha, rfl⟩ := hsur x hx
    obtain ⟨b, hb, rfl⟩ := hsur y hy
    rw [hm a b ha hb]; exact hS _ (G.cl _ _ ha hb)
  · intro x y z hx hy hz
    obtain ⟨a, ha, rfl⟩ := hsur x hx
    obtain ⟨b, hb, rfl⟩ := hsur y hy
    obtain ⟨c, hc, rfl⟩ := hsur z hz
    rw [hm a b ha hb, hm _ c (G.cl _ _ ha hb) hc, hm b c hb hc, hm a _ ha (G.cl _ _ hb hc), G.ass a b c ha hb hc]
  · intro x hx
    obtain ⟨a, ha, rfl⟩ := hsur x hx
    rw [hm e a G.one ha, G.el a ha]
  · intro x hx
    obtain ⟨a, ha, rfl⟩ := hsur x hx
    rw [hm a e ha G.one, G.er a ha]
  · intro x hx
    obtain ⟨a, ha, rfl⟩ := hsur x hx
    obtain ⟨b, hb, h1, h2⟩ := G.inv a ha
    exact ⟨f b, hS b hb, by rw [hm a b ha hb, h1], by rw [hm b a hb ha, h2]⟩

end
end Go.Proofs.YtoakmefajbbggaaGreat
namespace Go.Proofs.YtoakmefajbbggaaGreat
open Go.RowKit

set_option maxHeartbeats 2000000 in
theorem l08At_zero (P : Pr) (hP : Valid P) : AtOk P 0 := by
  intro w pv a b i A B Sp Sa Sb hi hp ha hb hA hB
  obtain ⟨vo, vp, vc, rfl, h3⟩ := hp
  have hn6 := hP.n6
  have hBx := PresP.box h3 28
  obtain ⟨ao, capo, hco, hoi⟩ := hBx.ordAt
  have hi2 : (i : Int) = P.orders.length := by omega
  have hi3 : ((P.orders.length : Int) ≤ (i : Int)) := by omega
  have HI := Lib.hid hi2; clear hi2
  go_enter Tryz.func192, Tryz.ntmps192
  go_wp2_with (at_make; refine wp_make_ints rfl _ _ rfl (w.heap.size + 1) P.orders.length (w.heap.size + 1) (by simp) _ rfl rfl rfl (by omega) (by simp) ?_; intro w1 ho1 hg1 _)
  go_ret
  exact ⟨_, rfl, grown_trans (World.grownBy_alloc _ _ _) hg1, ho1.weak (by omega)⟩

set_option maxHeartbeats 4000000 in
theorem l08At_succ (P : Pr) (hP : Valid P) (f : Nat) (ih : AtOk P f) : AtOk P (f + 1) := by
  intro w pv a b i A B Sp Sa Sb hi hp ha hb hA hB
  obtain ⟨vo, vp, vc, rfl, h3⟩ := hp
  have hn6 := hP.n6
  have hBx := PresP.box h3 28
  have ha0 := ha.ext (World.grownBy_alloc w (.cells #[vo, vp, vc] 28) none)
  have hb0 := hb.ext (World.grownBy_alloc w (.cells #[vo, vp, vc] 28) none)
  have hlA : A.length ≤ P.orders.length ∧ P.orders.length ≤ A.length := by rw [hA.1]; omega
  have hlB : B.length ≤ P.orders.length ∧ P.orders.length ≤ B.length := by rw [hB.1]; omega
  have hg0 : Ext w (w.alloc (.cells #[vo, vp, vc] 28)) := World.grownBy_alloc _ _ _
  have hs0 : (w.alloc (.cells #[vo, vp, vc] 28)).heap.size = w.heap.size + 1 := by simp
  have HS := Lib.hid hs0; clear hs0
  clear ha hb
  go_enter Tryz.func192, Tryz.ntmps192
  obtain ⟨ao, capo, hco, hoi⟩ := hBx.ordAt
  go_wp2_with fail
  clear hco hoi
  generalize hw0 : w.alloc (.cells #[vo, vp, vc] 28) = w0 at *
  clear hw0
  refine Calls.mono (l01Own_ok w0 a A Sa ha0 (by omega)) ?_
  rintro e1 w1 ⟨L, rfl, hg1, hL⟩
  go_wp2_with fail
  refine Calls.mono (l01Own_ok w1 b B Sb (hb0.ext hg1) (by omega)) ?_
  rintro e2 w2 ⟨R, rfl, hg2, hR⟩
  have hL2 := hL.ext0 hg2
  obtain ⟨gl, capl, rfl, hbl, hsl⟩ := hL.form (by omega)
  obtain ⟨gr, capr, rfl, hbr, hsr⟩ := hR.form (by omega)
  have hne : gl ≠ gr := by omega
  have c1 := hL2.cell i (by omega)
  have f1 := hL2.frozen i
  obtain ⟨hL3, hg3⟩ := hL2.store i 0
  have hR3 := hR.ext hg3 (.inr (by intro h; cases h; exact hne rfl))
  have c2 := hR3.cell i (by omega)
  have f2 := hR3.frozen i
  obtain ⟨hR4, hg4⟩ := hR3.store i 0
  have hL4 := hL3.ext hg4 (.inr (by intro h; cases h; exact hne rfl))
  have hg4w : Ext w0 ((w2.setCell ⟨gl, i, none⟩ (.int .i64 0)).setCell ⟨gr, i, none⟩ (.int .i64 0)) :=
    grown_own (grown_own (grown_trans hg1 hg2) hg3 (fun j hj hlt => by cases hj; omega)) hg4 (fun j hj hlt => by cases hj; have := hg1.size; omega)
  have hA1 := hA.set i 0 ⟨by omega, fun _ => by have := hP.ord7 i (by omega); omega⟩
  have hB1 := hB.set i 0 ⟨by omega, fun _ => by have := hP.ord7 i (by omega); omega⟩
  have hs1 := hg1.size
  have hs2 := hg2.size
  have hAi := hA.2 i (by omega)
  have hBi := hB.2 i (by omega)
  have hoi := hP.ord7 i (by omega)
  have hAi0 : 0 ≤ gt A i := hAi.1
  have hBi0 : 0 ≤ gt B i := hBi.1
  have hoi0 : 2 ≤ gt P.orders i := hoi.1
  have hAi1 : gt A i < gt P.orders i := hAi.2
  have hBi1 : gt B i < gt P.orders i := hBi.2
  have hoi1 : gt P.orders i ≤ 7 := hoi.2
  clear hAi hBi hoi
  go_wp2
  clear c1 f1 c2 f2 hL2 hL3 hR3 hL hR
  generalize hw4 : (w2.setCell ⟨gl, i, none⟩ (.int .i64 0)).setCell ⟨gr, i, none⟩ (.int .i64 0) = w4 at *
  clear hw4 hg3 hg4
  obtain ⟨ab, capb, rfl, _, _⟩ := hb0.shape
  obtain ⟨aa, capa, rfl, _, _⟩ := ha0.shape
  go_loopw [10, 12] (fun v mm wr => ∃ m : Nat, mm = .int .i64 m ∧ m ≤ (gt B i).toNat ∧ Ext w4 wr ∧
      Own (w.heap.size + 1) wr v (iter m (fun l => rImage P f i l) (A.set i 0))) (fun _ mm _ => (gt B i).toNat - (intOf mm).toNat)
  case atStart => exact ⟨0, rfl, by omega, Ext.refl _, hL4.weak (by have := HS.out; omega)⟩
  case round =>
    obtain ⟨m, rfl, hm, hg, hO⟩ := hrel
    have hgr : Ext w0 wr := grown_trans hg4w hg
    obtain ⟨bb, ob, rfl, _, _, hcb⟩ := Ints.at (hb0.ext hgr) i (by omega)
    have hvm : Vec P.orders (iter m (fun l => rImage P f i l) (A.set i 0)) := iter_inv (Vec P.orders) _ (fun y hy => rImgTo_vec hP f i hi (rAt_vec hP f) _ _ (zeros_vec hP) f (Nat.le_refl _)) _ _ hA1
    have HV := Lib.hid hvm
    have hOi := hO.ints (by rw [hvm.1]; omega)
    clear hvm
    obtain ⟨vo9, vp9, vc9, _, _, hc0, hc1, hc2, h39⟩ := (hBx.ext hgr).at
    by_cases hlt2 : (m : Int) < gt B i
    · go_wp2_with fail
      refine Calls.mono (l08Image_of P hP f ih wr _ _ i _ Any Any hi ⟨_, _, _, rfl, h39⟩ hOi HV.out) ?_
      rintro e5 w5 ⟨v5, rfl, hg5, hO5⟩
      go_wp2
      go_roundw
      case rel => exact ⟨m + 1, by go_num, by omega, grown_trans hg hg5, hO5.weak (by have := hgr.size; have := HS.out; omega)⟩
      case measure => simp [intOf]; omega
    · have hme : m = (gt B i).toNat := by omega
      subst hme
      have hR5 := hR4.ext0 hg
      generalize hleft : iter (gt B i).toNat (fun l => rImage P f i l) (A.set i 0) = left at *
      have HL := Lib.hid hleft; clear hleft
      go_wp2_with fail
      refine Calls.mono (ih wr _ _ _ (i + 1) left (B.set i 0) Any Any Any (by omega) ⟨_, _, _, rfl, h39⟩ hOi (hR5.ints (by simp; omega)) HV.out hB1) ?_
      rintro e6 w6 ⟨rest, rfl, hg6, hr6⟩
      have hgr6 : Ext w0 w6 := grown_trans hgr hg6
      obtain ⟨ba, oa, rfl, _, _, hca⟩ := Ints.at (ha0.ext hgr6) i (by omega)
      have hcb6 : w6.cell? ⟨bb, ob + i, none⟩ = some (.int .i64 (gt B i)) := hg6.cell hcb (by simp)
      have hvr := rAt_vec hP f (i + 1) _ _ (by omega) HV.out hB1
      have HVr := Lib.hid hvr; clear hvr
      clear hc0 hc1 hc2 hcb hOi hO h39 hR5 hR4 hL4 hlt2 hm
      generalize hrest : rAt P f (i + 1) left (B.set i 0) = rst at *
      have HRst := Lib.hid hrest; clear hrest
      have hil : i < A.length := by omega
      have hil2 : i < B.length := by omega
      have s1 : IntKind.i64.wrap (gt A i + gt B i) = gt A i + gt B i := IntWalk.i64_in _ (by omega)
      go_wp2
      go_quiet (fail)
      clear s1 hca hcb6
      have hfin : rAt P (f + 1) i A B = if gt P.orders i ≤ gt A i + gt B i then (rAt P f (i + 1) (gt P.powers i) rst).set i (gt A i + gt B i - gt P.orders i) else rst.set i (gt A i + gt B i) := by
        rw [← HRst.out, ← HL.out]; rfl
      have HF := Lib.hid hfin; clear hfin
      rename_i nq _
      have hgr7 : Ext w0 (w6.drewN nq) := grown_trans hgr6 (grown_drewN _ _ _)
      have hr7 : Own wr.heap.size (w6.drewN nq) rest rst := hr6
      have hri := hr7.ints (by rw [HVr.out.1]; omega)
      have hbp := hBx.ext hgr7
      obtain ⟨ao7, capo7, hco, hoi⟩ := hbp.ordAt
      obtain ⟨bo, oo, rfl, _, _, hcoi⟩ := Ints.at hoi i (by omega)
      obtain ⟨ap, capp, hcp, hpr⟩ := hbp.powAt
      obtain ⟨bp, op, ap2, capp2, rfl, _, _, hcpi, hpi⟩ := Rows2.at hpr i (by rw [hP.pl]; omega)
      have hjp : i < P.powers.length := by rw [hP.pl]; omega
      have hwsz : wr.heap.size ≤ (w6.drewN nq).heap.size := hg6.size
      clear hr6 hgr6 hbp hoi hpr
      generalize w6.drewN nq = w7 at *
      by_cases hc : gt P.orders i ≤ gt A i + gt B i
      case' pos =>
        have HF2 := Lib.hid (HF.out.trans (if_pos hc)); clear HF
        obtain ⟨vo9, vp9, vc9, _, _, hc0, hc1, hc2, h39⟩ := (hBx.ext hgr7).at
        have s3 : IntKind.i64.wrap ((i : Int) + 1) = (i : Int) + 1 := IntWalk.i64_in _ (by omega)
        have s4 : IntKind.i64.wrap (gt A i + gt B i - gt P.orders i) = gt A i + gt B i - gt P.orders i := IntWalk.i64_in _ (by omega)
        have e1 : ∀ w', Ext w7 w' → w'.cell? ⟨w.heap.size, 0, none⟩ = some vo9 := fun w' h => h.cell hc0 (by simp)
        have e2 : ∀ w', Ext w7 w' → w'.cell? ⟨w.heap.size, 1, none⟩ = some (.slice (some ⟨bp, op, none⟩) P.powers.length capp) := fun w' h => h.cell (by simpa using hcp) (by simp)
        have e3 : ∀ w', Ext w7 w' → w'.cell? ⟨w.heap.size, 2, none⟩ = some vc9 := fun w' h => h.cell (by simpa using hc2) (by simp)
        have e4 : ∀ w', Ext w7 w' → w'.cell? ⟨bp, op + i, none⟩ = some (.slice ap2 (gt P.powers i).length capp2) := fun w' h => h.cell hcpi (by simp)
        have evp : vp9 = .slice (some ⟨bp, op, none⟩) P.powers.length capp := by
          have := hc1.symm.trans hcp; simpa using this
        subst evp
        have b3 : (i : Int) < P.powers.length := by omega
        have hpv := (hP.pv i (by omega)).1
        have HPV := Lib.hid hpv; clear hpv
        clear hc2 hc1 hcp
        go_wp2
        clear hco hcoi hcpi
        go_region_held3 (fun w' => Ext w7 w') (first | exact grown_drew _ _ | exact hg8)
            (first | (go_at_call 192; refine Calls.mono (Calls.rel (w0 := w7) (by assumption) (ih _ _ _ _ (i + 1) (gt P.powers i) rst Any Any Any (by omega) ⟨_, _, _, rfl, Pres3.ext h39 (by assumption)⟩ (Ints.ext hpi (by assumption)) (Ints.ext hri (by assumption)) HPV.out HVr.out)) ?_; rintro e8 w8 ⟨v8, rfl, hg8, hsz8, hO8⟩))
        have hvp := rAt_vec hP f (i + 1) _ _ (by omega) HPV.out HVr.out
        have hlp : (rAt P f (i + 1) (gt P.powers i) rst).length = P.orders.length := hvp.1
        clear e1 e2 e3 e4 s3 s4 hvp
        go_wp2_with fail
        refine Calls.mono (l01Own_ok w8 v8 (rAt P f (i + 1) (gt P.powers i) rst) Any (hO8.ints (by omega)) (by omega)) ?_
        have hw8 : w0.heap.size ≤ w8.heap.size := by have := hgr7.size; have := hg8.size; omega
        have hgr8 : Ext w0 w8 := grown_trans hgr7 hg8
        generalize rAt P f (i + 1) (gt P.powers i) rst = fin at *
        generalize hcc : gt A i + gt B i - gt P.orders i = cc at *
      case' neg =>
        have HF2 := Lib.hid (HF.out.trans (if_neg hc)); clear HF
        have hlp : rst.length = P.orders.length := HVr.out.1
        go_wp2_with fail
        refine Calls.mono (l01Own_ok w7 rest rst Any hri (by omega)) ?_
        have hgr8 : Ext w0 w7 := hgr7
        generalize hcc : gt A i + gt B i = cc at *
        clear hri hr7 HVr HRst
        generalize rst = fin at *
      all_goals
        have HCC := Lib.hid hcc; clear hcc
        have hlp2 : fin.length ≤ P.orders.length ∧ P.orders.length ≤ fin.length := by omega
        clear hlp
        rintro e9 w9 ⟨v9, rfl, hg9, hO9⟩
        obtain ⟨g9, cap9, rfl, hb9, hs9⟩ := hO9.form (by omega)
        have c9 := hO9.cell i (by omega)
        have f9 := hO9.frozen i
        obtain ⟨hO10, hg10⟩ := hO9.store i cc
        have hfl : i < fin.length := by omega
        go_wp2
        go_ret
        refine ⟨_, rfl, ?_, ?_⟩
        · exact grown_trans hg0 (grown_own (grown_trans hgr8 hg9) hg10 (fun j hj hlt => by cases hj; have := hgr8.size; omega))
        · rw [HF2.out]; exact hO10.weak (by have := hgr8.size; have := HS.out; omega)

theorem l08At_ok (P : Pr) (hP : Valid P) (f : Nat) : AtOk P f := by
  induction f with
  | zero => exact l08At_zero P hP
  | succ f ih => exact l08At_succ P hP f ih

/-- the reference's product -/
def rMul (P : Pr) (A B : List Int) : List Int := rAt P P.orders.length 0 A B

end Go.Proofs.YtoakmefajbbggaaGreat
namespace Go.Proofs.YtoakmefajbbggaaGreat
open Go.RowKit

set_option maxHeartbeats 4000000 in
theorem sIsPresentation_ok (w : World) (pv : Value) (P : Pr) (S : Nat → Prop) (hp : PresV S w pv P) :
    Calls Tryz.prog 57 #[pv] w (Ret w fun _ v => v = .bool (validB P)) := by
  obtain ⟨vo, vp, vc, rfl, h3⟩ := hp
  have hBx := PresP.box h3 28
  have hg0 : Ext w (w.alloc (.cells #[vo, vp, vc] 28)) := World.grownBy_alloc _ _ _
  go_enter Tryz.func57, Tryz.ntmps57
  obtain ⟨ao, capo, hco, hoi⟩ := hBx.ordAt
  obtain ⟨ap, capp, hcp, hpi⟩ := hBx.powAt
  obtain ⟨ac, capc, hcc, hci⟩ := hBx.conjAt
  by_cases h6 : P.orders.length ≤ 6
  rotate_left
  · have hd : decide ((6 : Int) < (P.orders.length : Int)) = true := by simp; omega
    go_wp2
    go_ret
    exact ret_bool hg0 (validB_false (fun h => h6 h.n6)).symm
  have hd6 : decide ((6 : Int) < (P.orders.length : Int)) = false := by simp; omega
  by_cases hpl : P.powers.length = P.orders.length
  rotate_left
  · have hd : ((P.powers.length : Int) != (P.orders.length : Int)) = true := by simp; omega
    have HP := Lib.hid hpl; clear hpl
    go_wp2
    go_ret
    exact ret_bool hg0 (validB_false (fun h => HP.out h.pl)).symm
  have hdp : ((P.powers.length : Int) != (P.orders.length : Int)) = false := by simp [hpl]
  by_cases hcl : P.conj.length = P.orders.length
  rotate_left
  · have hd : ((P.conj.length : Int) != (P.orders.length : Int)) = true := by simp; omega
    have HP := Lib.hid hpl; clear hpl
    have HC := Lib.hid hcl; clear hcl
    go_wp2
    go_ret
    exact ret_bool hg0 (validB_false (fun h => HC.out h.cl)).symm
  have hdc : ((P.conj.length : Int) != (P.orders.length : Int)) = false := by simp [hcl]
  have hpl2 : P.powers.length ≤ P.orders.length ∧ P.orders.length ≤ P.powers.length := by omega
  have hcl2 : P.conj.length ≤ P.orders.length ∧ P.orders.length ≤ P.conj.length := by omega
  have HP := Lib.hid hpl; clear hpl
  have HC := Lib.hid hcl; clear hcl
  go_wp2
  clear hd6 hdp hdc
  generalize hw0 : w.alloc (.cells #[vo, vp, vc] 28) = w0 at *
  clear hw0
  go_loop [4] (fun i => ∃ k : Nat, i = .int .i64 k ∧ k ≤ P.orders.length ∧ ∀ i, i < k → primeB (gt P.orders i) = true) (fun i => P.orders.length - (intOf i).toNat)
  case atStart => exact ⟨0, rfl, by omega, fun i hi => by omega⟩
  case round =>
    obtain ⟨k, rfl, hk, hz⟩ := hrel
    have HZ := Lib.hid hz; clear hz
    by_cases hlt : k < P.orders.length
    · obtain ⟨b, off, rfl, _, _, hc⟩ := Ints.at hoi k hlt
      cases hx : primeB (gt P.orders k) with
      | false =>
        have HX := Lib.hid hx
        go_wp2_with (go_at_call 117; refine (l01Prime_ok _ _).mono ?_; rintro e1 w1 ⟨rfl, rfl⟩)
        go_ret
        exact ret_bool hg0 (validB_false (fun h => by have := primeB_true.2 (h.ord k hlt); rw [HX.out] at this; cases this)).symm
      | true =>
        have HX := Lib.hid hx
        go_wp2_with (go_at_call 117; refine (l01Prime_ok _ _).mono ?_; rintro e1 w1 ⟨rfl, rfl⟩)
        go_round
        case rel => exact ⟨k + 1, by go_num, by omega, fun i hi => by
            rcases Nat.lt_or_ge i k with h1 | h1
            · exact HZ.out i h1
            · have : i = k := by omega
              rw [this]; exact HX.out⟩
        case measure => simp [intOf]; omega
    · have hke : k = P.orders.length := by omega
      subst hke
      have hord : ∀ i, i < P.orders.length → 1 ≤ gt P.orders i ∧ gt P.orders i ≤ 7 := fun i hi => by have := primeB_true.1 (HZ.out i hi); omega
      have HO := Lib.hid hord; clear hord
      have hcap := capTo_le (l := P.orders) P.orders.length (fun i hi => (HO.out i hi).1)
      have HCP := Lib.hid hcap; clear hcap
      by_cases h729 : capTo P.orders P.orders.length ≤ 729
      rotate_left
      · have hd : decide ((729 : Int) < capTo P.orders P.orders.length) = true := by simp; omega
        go_wp2_with (go_at_call 118; refine (l07Product_ok _ _ P.orders Any hoi HO.out).mono ?_; rintro e1 w1 ⟨rfl, rfl⟩)
        go_ret
        exact ret_bool hg0 (validB_false (fun h => by have := HCP.out.1.2 h.le729; omega)).symm
      have hd : decide ((729 : Int) < capTo P.orders P.orders.length) = false := by simp; omega
      go_wp2_with (go_at_call 118; refine (l07Product_ok _ _ P.orders Any hoi HO.out).mono ?_; rintro e1 w1 ⟨rfl, rfl⟩)
      have HLE := Lib.hid (HCP.out.1.1 h729)
      have hord0 : ∀ i, i < P.orders.length → 0 ≤ gt P.orders i ∧ gt P.orders i ≤ 7 := fun i hi => by have := HO.out i hi; omega
      have HO0 := Lib.hid hord0; clear hord0
      clear hcc hcp hco hd h729 HO HCP
      go_loopw [5] (fun i wr => ∃ k : Nat, i = .int .i64 k ∧ k ≤ P.orders.length ∧ Dr w0 wr ∧ ∀ i, i < k → tailB P.orders i (gt P.powers i) = true ∧ (gt P.conj i).length = P.orders.length - 1 - i ∧ ∀ j, j < P.orders.length - 1 - i → tailB P.orders i (gt (gt P.conj i) j) = true) (fun i _ => P.orders.length - (intOf i).toNat)
      case atStart => exact ⟨0, rfl, by omega, Dr.refl _, fun i hi => by omega⟩
      case round =>
        obtain ⟨k, rfl, hk, hdr, hz⟩ := hrel
        have HZ2 := Lib.hid hz; clear hz
        have hgr : Ext w wr := grown_trans hg0 hdr.ext
        by_cases hlt : k < P.orders.length
        · obtain ⟨ao5, capo5, hco, hoi5⟩ := (hBx.ext hdr.ext).ordAt
          obtain ⟨ap, capp, hcp, hpi⟩ := (hBx.ext hdr.ext).powAt
          obtain ⟨ac, capc, hcc, hci⟩ := (hBx.ext hdr.ext).conjAt
          obtain ⟨b1, o1, a2, cap2, rfl, _, _, hc2, hi2⟩ := Rows2.at hpi k (by omega)
          obtain ⟨b3, o3, a4, cap4, rfl, _, _, hc4, hi4⟩ := Rows3.at hci k (by omega)
          have hbad1 : expZB P.orders (gt P.powers k) k = false → validB P = false := fun hx => validB_false (fun h => by have := expZB_vec.2 (h.pv k hlt); rw [hx] at this; cases this)
          have hbad2 : ¬ (gt P.conj k).length = P.orders.length - 1 - k → validB P = false := fun hx => validB_false (fun h => hx (h.cv k hlt).1)
          have hbad3 : ∀ j, j < P.orders.length - 1 - k → expZB P.orders (gt (gt P.conj k) j) k = false → validB P = false := fun j hj hx => validB_false (fun h => by have := expZB_vec.2 ((h.cv k hlt).2 j hj); rw [hx] at this; cases this)
          have HB1 := Lib.hid hbad1; have HB2 := Lib.hid hbad2; have HB3 := Lib.hid hbad3; clear hbad1 hbad2 hbad3
          have b5 : (0 : Int) ≤ k := by omega
          have b6 : (k : Int) < P.powers.length := by omega
          have b7 : (k : Int) < P.conj.length := by omega
          have s1 : IntKind.i64.wrap ((P.orders.length : Int) - 1) = (P.orders.length : Int) - 1 := IntWalk.i64_in _ (by omega)
          have s2 : IntKind.i64.wrap ((P.orders.length : Int) - 1 - k) = (P.orders.length : Int) - 1 - k := IntWalk.i64_in _ (by omega)
          cases hx : expZB P.orders (gt P.powers k) k with
          | false =>
            have HX := Lib.hid hx
            go_wp2
            go_quiet ((go_at_call 119; exact quiet_rd (l07Exponents_ok _ _ _ P.orders (gt P.powers k) k Any Any (hoi5.ext (grown_drewN _ _ _)) (hi2.ext (grown_drewN _ _ _)) HO0.out)))
            go_wp2
            go_ret
            exact ret_bool (grown_trans hgr (grown_drewN _ _ _)) (HB1.out HX.out).symm
          | true =>
            have HX := Lib.hid hx
            by_cases hlen : (gt P.conj k).length = P.orders.length - 1 - k
            · have hd : (((gt P.conj k).length : Int) != (P.orders.length : Int) - 1 - k) = false := by simp; omega
              have hl2 : (gt P.conj k).length ≤ P.orders.length - 1 - k ∧ P.orders.length - 1 - k ≤ (gt P.conj k).length := by omega
              have HLN := Lib.hid hlen; clear hlen
              go_wp2
              go_quiet ((go_at_call 119; exact quiet_rd (l07Exponents_ok _ _ _ P.orders (gt P.powers k) k Any Any (hoi5.ext (grown_drewN _ _ _)) (hi2.ext (grown_drewN _ _ _)) HO0.out)))
              rename_i nq _
              have hdr2 := hdr.step nq
              clear hd hx hcp hc2 s1 s2 b6
              have hci9 : Rows3 Any (wr.drewN nq) (.slice (some ⟨b3, o3, none⟩) P.conj.length capc) P.conj := hci
              go_wp2
              go_loopw [6] (fun i wr => ∃ j : Nat, i = .int .i64 j ∧ j ≤ (gt P.conj k).length ∧ Dr w0 wr ∧ ∀ i, i < j → expZB P.orders (gt (gt P.conj k) i) k = true) (fun i _ => (gt P.conj k).length - (intOf i).toNat)
              case atStart => exact ⟨0, rfl, by omega, hdr2, fun i hi => by omega⟩
              case round =>
                clear hcc hc4 hi4 hi2 hci hpi hci9 hoi5
                obtain ⟨j, rfl, hj, hdr3, hz⟩ := hrel
                have HZ3 := Lib.hid hz; clear hz
                have hgr3 : Ext w wr := grown_trans hg0 hdr3.ext
                obtain ⟨ao7, capo7, hco, hoi7⟩ := (hBx.ext hdr3.ext).ordAt
                obtain ⟨ac7, capc7, hcc, hci⟩ := (hBx.ext hdr3.ext).conjAt
                obtain ⟨b8, o8, a8, cap8, rfl, _, _, hc8, hi8⟩ := Rows3.at hci k (by omega)
                by_cases hlt2 : j < (gt P.conj k).length
                · obtain ⟨b9, o9, a9, cap9, rfl, _, _, hc9, hi9⟩ := Rows2.at hi8 j hlt2
                  have b10 : (j : Int) < (gt P.conj k).length := by omega
                  have b11 : (0 : Int) ≤ j := by omega
                  cases hy : expZB P.orders (gt (gt P.conj k) j) k with
                  | false =>
                    have HY := Lib.hid hy
                    go_wp2
                    go_quiet ((go_at_call 119; exact quiet_rd (l07Exponents_ok _ _ _ P.orders (gt (gt P.conj k) j) k Any Any (hoi7.ext (grown_drewN _ _ _)) (hi9.ext (grown_drewN _ _ _)) HO0.out)))
                    go_wp2
                    go_ret
                    exact ret_bool (grown_trans hgr3 (grown_drewN _ _ _)) (HB3.out j (by omega) HY.out).symm
                  | true =>
                    have HY := Lib.hid hy
                    go_wp2
                    go_quiet ((go_at_call 119; exact quiet_rd (l07Exponents_ok _ _ _ P.orders (gt (gt P.conj k) j) k Any Any (hoi7.ext (grown_drewN _ _ _)) (hi9.ext (grown_drewN _ _ _)) HO0.out)))
                    go_wp2
                    go_roundw
                    case rel => exact ⟨j + 1, by go_num, by omega, hdr3.step _, fun i hi => by
                      rcases Nat.lt_or_ge i j with h1 | h1
                      · exact HZ3.out i h1
                      · have : i = j := by omega
                        rw [this]; exact HY.out⟩
                    case measure => simp [intOf]; omega
                · have hje : j = (gt P.conj k).length := by omega
                  go_wp2
                  go_roundw
                  case rel => exact ⟨k + 1, by go_num, by omega, hdr3, fun i hi => by
                    rcases Nat.lt_or_ge i k with h1 | h1
                    · exact HZ2.out i h1
                    · have : i = k := by omega
                      rw [this]; exact ⟨tailB_vec.2 (expZB_vec.1 HX.out), HLN.out, fun i hi => tailB_vec.2 (expZB_vec.1 (HZ3.out i (by omega)))⟩⟩
                  case measure => simp [intOf]; omega
            · have hd : (((gt P.conj k).length : Int) != (P.orders.length : Int) - 1 - k) = true := by simp; omega
              have HLN := Lib.hid hlen; clear hlen
              go_wp2
              go_quiet ((go_at_call 119; exact quiet_rd (l07Exponents_ok _ _ _ P.orders (gt P.powers k) k Any Any (hoi5.ext (grown_drewN _ _ _)) (hi2.ext (grown_drewN _ _ _)) HO0.out)))
              go_wp2
              go_ret
              exact ret_bool (grown_trans hgr (grown_drewN _ _ _)) (HB2.out HLN.out).symm
        · have hke : k = P.orders.length := by omega
          subst hke
          go_wp2
          go_ret
          refine ret_bool hgr (validB_true ?_).symm
          exact ⟨HLE.out, h6, HP.out, HC.out, fun i hi => primeB_true.1 (HZ.out i hi), fun i hi => tailB_vec.1 (HZ2.out i hi).1,
            fun i hi => ⟨(HZ2.out i hi).2.1, fun j hj => tailB_vec.1 ((HZ2.out i hi).2.2 j hj)⟩⟩

end Go.Proofs.YtoakmefajbbggaaGreat
namespace Go.Proofs.YtoakmefajbbggaaGreat
open Go.RowKit

def rFrom (P : Pr) : Nat → Nat → List Int → List Int
  | 0, _, _ => zeros P.orders.length
  | f + 1, i, X =>
    let out := rFrom P f (i + 1) (X.set i 0)
    if gt X i = 0 then out else
      rAt P (f + 1) i (rAt P (f + 1) i out ((zeros P.orders.length).set i (gt P.orders i - gt X i))) (rFrom P f (i + 1) (gt P.powers i))

theorem rFrom_vec {P : Pr} (hP : Valid P) (f : Nat) : ∀ i X, i + f = P.orders.length → Vec P.orders X → Vec P.orders (rFrom P f i X) := by
  induction f with
  | zero => intro i X _ _; exact zeros_vec hP
  | succ f ih =>
    intro i X hi hX
    have ho := hP.ord7 i (by omega)
    have hx := hX.2 i (by omega)
    have h1 := ih (i + 1) (X.set i 0) (by omega) (hX.set i 0 ⟨by omega, fun _ => by omega⟩)
    simp only [rFrom]
    split
    · exact h1
    · exact rAt_vec hP _ _ _ _ hi (rAt_vec hP _ _ _ _ hi h1 ((zeros_vec hP).set i _ ⟨by omega, fun _ => by omega⟩)) (ih (i + 1) _ (by omega) (hP.pv i (by omega)).1)

def FromOk (P : Pr) (f : Nat) : Prop :=
  ∀ (w : World) (pv x : Value) (i : Nat) (X : List Int) (Sp Sx : Nat → Prop), i + f = P.orders.length → PresV Sp w pv P → Ints Sx w x X → Vec P.orders X →
    Calls Tryz.prog 131 #[pv, .int .i64 i, x] w (Ret w fun w' v => Own w.heap.size w' v (rFrom P f i X))

set_option maxHeartbeats 2000000 in
theorem l10From_zero (P : Pr) (hP : Valid P) : FromOk P 0 := by
  intro w pv x i X Sp Sx hi hp hx hX
  obtain ⟨vo, vp, vc, rfl, h3⟩ := hp
  have hn6 := hP.n6
  have hBx := PresP.box h3 28
  obtain ⟨ao, capo, hco, hoi⟩ := hBx.ordAt
  have hi3 : ((P.orders.length : Int) ≤ (i : Int)) := by omega
  go_enter Tryz.func131, Tryz.ntmps131
  go_wp2_with (at_make; refine wp_make_ints rfl _ _ rfl (w.heap.size + 1) P.orders.length (w.heap.size + 1) (by simp) _ rfl rfl rfl (by omega) (by simp) ?_; intro w1 ho1 hg1 _)
  go_ret
  exact ⟨_, rfl, grown_trans (World.grownBy_alloc _ _ _) hg1, ho1.weak (by omega)⟩

set_option maxHeartbeats 4000000 in
theorem l10From_succ (P : Pr) (hP : Valid P) (f : Nat) (ih : FromOk P f) : FromOk P (f + 1) := by
  intro w pv x i X Sp Sx hi hp hx hX
  obtain ⟨vo, vp, vc, rfl, h3⟩ := hp
  have hn6 := hP.n6
  have hBx := PresP.box h3 28
  have hg0 : Ext w (w.alloc (.cells #[vo, vp, vc] 28)) := World.grownBy_alloc _ _ _
  have hx0 := hx.ext hg0
  have hlX : X.length ≤ P.orders.length ∧ P.orders.length ≤ X.length := by rw [hX.1]; omega
  have hs0 : (w.alloc (.cells #[vo, vp, vc] 28)).heap.size = w.heap.size + 1 := by simp
  have HS := Lib.hid hs0; clear hs0 hx
  obtain ⟨ax, capx, rfl, _, _⟩ := hx0.shape
  go_enter Tryz.func131, Tryz.ntmps131
  obtain ⟨ao, capo, hco, hoi⟩ := hBx.ordAt
  go_wp2_with fail
  clear hco hoi
  generalize hw0 : w.alloc (.cells #[vo, vp, vc] 28) = w0 at *
  clear hw0
  refine Calls.mono (l01Own_ok w0 _ X Sx hx0 (by omega)) ?_
  rintro e1 w1 ⟨R, rfl, hg1, hR⟩
  obtain ⟨gr, capr, rfl, hbr, hsr⟩ := hR.form (by omega)
  have c1 := hR.cell i (by omega)
  have f1 := hR.frozen i
  obtain ⟨hR2, hg2⟩ := hR.store i 0
  have hgw : Ext w0 (w1.setCell ⟨gr, i, none⟩ (.int .i64 0)) := grown_own hg1 hg2 (fun j hj hlt => by cases hj; omega)
  obtain ⟨vo9, vp9, vc9, _, _, hc0, hc1, hc2, h39⟩ := (hBx.ext hgw).at
  have ho7 := hP.ord7 i (by omega)
  have hxi := hX.2 i (by omega)
  have hx1 : 0 ≤ gt X i := hxi.1
  have hx2 : gt X i < gt P.orders i := hxi.2
  have ho2 : 2 ≤ gt P.orders i := ho7.1
  have ho3 : gt P.orders i ≤ 7 := ho7.2
  have hX1 := hX.set i 0 ⟨by omega, fun _ => by omega⟩
  clear hxi ho7
  go_wp2_with fail
  clear c1 f1 hc0 hc1 hc2
  generalize hw2 : w1.setCell ⟨gr, i, none⟩ (.int .i64 0) = w2 at *
  clear hw2
  refine Calls.mono (ih w2 _ _ (i + 1) (X.set i 0) Any Any (by omega) ⟨_, _, _, rfl, h39⟩ (hR2.ints (by simp; omega)) hX1) ?_
  rintro e3 w3 ⟨out, rfl, hg3, hO3⟩
  have hgw3 : Ext w0 w3 := grown_trans hgw hg3
  obtain ⟨bx, ox, rfl, _, _, hcx⟩ := Ints.at (hx0.ext hgw3) i (by omega)
  by_cases hz : gt X i = 0
  · have hb : (gt X i == 0) = true := by simp [hz]
    have HZ := Lib.hid hz; clear hz
    go_wp2
    go_ret
    exact ⟨_, rfl, grown_trans hg0 hgw3, by simp only [rFrom, if_pos HZ.out]; exact hO3.weak (by have := hgw.size; have := HS.out; omega)⟩
  · have hb : (gt X i == 0) = false := by simp [hz]
    have HZ := Lib.hid hz; clear hz
    have hsz3 : w0.heap.size ≤ w3.heap.size := hgw3.size
    go_wp2_with (at_make; refine wp_make_ints rfl _ _ rfl w3.heap.size P.orders.length w3.heap.size rfl _ rfl rfl rfl (by omega) (by simp) ?_; intro w4 ho4 hg4 hlt4)
    clear hcx hb
    have hgw4 : Ext w0 w4 := grown_trans hgw3 hg4
    obtain ⟨ao4, capo4, hco, hoi⟩ := hBx.ordAt
    obtain ⟨bo, oo, rfl, _, _, hcoi⟩ := Ints.at hoi i (by omega)
    obtain ⟨bx4, ox4, hxe, _, _, hcx⟩ := Ints.at hx0 i (by omega)
    obtain ⟨rfl, rfl⟩ : bx4 = bx ∧ ox4 = ox := by cases hxe; exact ⟨rfl, rfl⟩
    clear hxe
    have c4 := ho4.cell i (by simp; omega)
    have f4 := ho4.frozen i
    obtain ⟨ho5, hst⟩ := ho4.store i (gt P.orders i - gt X i)
    have hi1 : (i : Int) < P.orders.length := by omega
    have hi2 : (i : Int) < X.length := by omega
    have hi0 : (0 : Int) ≤ i := by omega
    have s1 : IntKind.i64.wrap (gt P.orders i - gt X i) = gt P.orders i - gt X i := IntWalk.i64_in _ (by omega)
    have hkeep : Ext w0 (w4.setCell ⟨w3.heap.size, i, none⟩ (.int .i64 (gt P.orders i - gt X i))).drew :=
      grown_trans (grown_own hgw4 hst (fun j hj hlt => by cases hj; omega)) (grown_drew _ _)
    have hg36 : Ext w3 (w4.setCell ⟨w3.heap.size, i, none⟩ (.int .i64 (gt P.orders i - gt X i))).drew :=
      grown_trans (grown_own hg4 hst (fun j hj hlt => by cases hj; omega)) (grown_drew _ _)
    have ho6 : Own w3.heap.size (w4.setCell ⟨w3.heap.size, i, none⟩ (.int .i64 (gt P.orders i - gt X i))).drew (.slice (some ⟨w3.heap.size, 0, none⟩) P.orders.length P.orders.length) ((List.replicate P.orders.length 0).set i (gt P.orders i - gt X i)) := ho5
    have e1 : ∀ w', Ext w0 w' → w'.cell? ⟨w.heap.size, 0, none⟩ = some (.slice (some ⟨bo, oo, none⟩) P.orders.length capo4) := fun w' h => h.cell hco (by simp)
    have e2 : ∀ w', Ext w0 w' → w'.cell? ⟨bo, oo + i, none⟩ = some (.int .i64 (gt P.orders i)) := fun w' h => h.cell hcoi (by simp)
    have e3 : ∀ w', Ext w0 w' → w'.cell? ⟨bx4, ox4 + i, none⟩ = some (.int .i64 (gt X i)) := fun w' h => h.cell hcx (by simp)
    clear hco hcoi hcx
    go_region_held3 (fun w' => Ext w0 w') (first | exact grown_trans hgw4 (grown_drew _ _) | exact hkeep) (fail)
    clear e1 e2 e3 s1 c4 f4
    clear hst ho5
    generalize hw6 : (w4.setCell ⟨w3.heap.size, i, none⟩ (.int .i64 (gt P.orders i - gt X i))).drew = w6 at *
    clear hw6
    obtain ⟨vo6, vp6, vc6, _, _, hc0, hc1, hc2, h36⟩ := (hBx.ext hkeep).at
    obtain ⟨ap, capp, rfl, _, _⟩ := Sl.shape h36.p
    obtain ⟨bp, op, ap2, capp2, rfl, _, _, hcpi, hpi⟩ := Rows2.at h36.p i (by rw [hP.pl]; omega)
    have hjp : (i : Int) < P.powers.length := by rw [hP.pl]; omega
    have hvo := rFrom_vec hP f (i + 1) _ (by omega) hX1
    have hvt : Vec P.orders ((zeros P.orders.length).set i (gt P.orders i - gt X i)) := (zeros_vec hP).set i _ ⟨by omega, fun _ => by have := HZ.out; omega⟩
    have hvm := rAt_vec hP (f + 1) i _ _ hi hvo hvt
    have hvp := (hP.pv i (by omega)).1
    have hvf := rFrom_vec hP f (i + 1) _ (by omega) hvp
    have hl1 := hvo.1
    have hl2 := hvm.1
    have hl3 := hvf.1
    have hoi := (hO3.ext0 hg36).ints (by omega)
    have hti : Ints Any w6 (.slice (some ⟨w3.heap.size, 0, none⟩) P.orders.length P.orders.length) ((zeros P.orders.length).set i (gt P.orders i - gt X i)) := Own.ints ho6 (by rw [List.length_set]; simp [zeros]; omega)
    have HV1 := Lib.hid hvo; have HV2 := Lib.hid hvt; have HV3 := Lib.hid hvm; have HV4 := Lib.hid hvp; have HV5 := Lib.hid hvf
    have HL1 := Lib.hid hl1; have HL2 := Lib.hid hl2; have HL3 := Lib.hid hl3
    clear hvo hvt hvm hvp hvf hl1 hl2 hl3 hgw hgw3 hgw4 hO3 ho6 ho4 hR2
    have hsz6 : w.heap.size ≤ w6.heap.size := by have := hkeep.size; have := HS.out; omega
    have e1 : ∀ w', Ext w6 w' → w'.cell? ⟨w.heap.size, 0, none⟩ = some vo6 := fun w' h => h.cell hc0 (by simp)
    have e2 : ∀ w', Ext w6 w' → w'.cell? ⟨w.heap.size, 1, none⟩ = some (.slice (some ⟨bp, op, none⟩) P.powers.length capp) := fun w' h => h.cell (by simpa using hc1) (by simp)
    have e3 : ∀ w', Ext w6 w' → w'.cell? ⟨w.heap.size, 2, none⟩ = some vc6 := fun w' h => h.cell (by simpa using hc2) (by simp)
    have e4 : ∀ w', Ext w6 w' → w'.cell? ⟨bp, op + i, none⟩ = some (.slice ap2 (gt P.powers i).length capp2) := fun w' h => h.cell hcpi (by simp)
    have s3 : IntKind.i64.wrap ((i : Int) + 1) = (i : Int) + 1 := IntWalk.i64_in _ (by omega)
    clear hc0 hc1 hc2 hcpi
    go_wp2
    go_region_held3 (fun w' => Ext w6 w') (first | exact grown_drew _ _ | assumption)
      (first
        | (go_at_call_of 192 (out); refine Calls.mono (Calls.rel (w0 := w6) (by assumption) (l08At_ok P hP (f + 1) _ _ _ _ i _ _ Any Any Any hi ⟨_, _, _, rfl, Pres3.ext h36 (by assumption)⟩ (Ints.ext hoi (by assumption)) (Ints.ext hti (by assumption)) HV1.out HV2.out)) ?_; rintro eA wA ⟨vA, rfl, hgA, hsA, hOA⟩)
        | (go_at_call 131; refine Calls.mono (Calls.rel2 (w0 := w6) (by assumption) (ih _ _ _ (i + 1) _ Any Any (by omega) ⟨_, _, _, rfl, Pres3.ext h36 (by assumption)⟩ (Ints.ext hpi (by assumption)) HV4.out)) ?_; rintro eF wF ⟨vF, rfl, hgF, hgF2, hsF, hOF⟩; have hOA2 := (hOA.ext0 hgF2).ints (by rw [HL2.out]; omega); have hOF2 := hOF.ints (by rw [HL3.out]; omega))
        | (go_at_call 192; refine Calls.mono (Calls.rel (w0 := w6) (by assumption) (l08At_ok P hP (f + 1) _ _ _ _ i _ _ Any Any Any hi ⟨_, _, _, rfl, Pres3.ext h36 (by assumption)⟩ hOA2 hOF2 HV3.out HV5.out)) ?_; rintro eB wB ⟨vB, rfl, hgB, hsB, hOB⟩))
    go_wp2
    go_ret
    refine ⟨_, rfl, grown_trans hg0 (grown_trans hkeep hgB), ?_⟩
    simp only [rFrom, if_neg HZ.out]
    exact hOB.weak (by omega)

theorem l10From_ok (P : Pr) (hP : Valid P) (f : Nat) : FromOk P f := by
  induction f with
  | zero => exact l10From_zero P hP
  | succ f ih => exact l10From_succ P hP f ih

/-- the reference's inverse -/
def rInv (P : Pr) (X : List Int) : List Int := rFrom P P.orders.length 0 X

theorem rInv_vec {P : Pr} (hP : Valid P) (X : List Int) (hX : Vec P.orders X) : Vec P.orders (rInv P X) := rFrom_vec hP _ 0 X (by omega) hX
set_option maxHeartbeats 1000000 in
theorem l10Inv_ok (P : Pr) (hP : Valid P) (w : World) (pv x : Value) (X : List Int) (Sp Sx : Nat → Prop) (hp : PresV Sp w pv P) (hx : Ints Sx w x X) (hX : Vec P.orders X) :
    Calls Tryz.prog 67 #[pv, x] w (Ret w fun w' v => Own w.heap.size w' v (rInv P X)) := by
  obtain ⟨vo, vp, vc, rfl, h3⟩ := hp
  go_enter Tryz.func67, Tryz.ntmps67
  obtain ⟨vo9, vp9, vc9, _, _, hc0, hc1, hc2, h39⟩ := (PresP.box h3 28).at
  go_wp2_with fail
  refine Calls.mono (l10From_ok P hP P.orders.length _ _ _ 0 X Any Sx (by omega) ⟨_, _, _, rfl, h39⟩ (hx.ext (World.grownBy_alloc _ _ _)) hX) ?_
  rintro e1 w1 ⟨v1, rfl, hg1, hO1⟩
  go_wp2
  go_ret
  exact ⟨_, rfl, grown_trans (World.grownBy_alloc _ _ _) hg1, hO1.weak (by simp)⟩

end Go.Proofs.YtoakmefajbbggaaGreat
namespace Go.Proofs.YtoakmefajbbggaaGreat
open Go.RowKit

def TgenOk (P : Pr) (fuel : Nat) : Prop :=
  ∀ (base : Nat) (w : World) (p e : Value) (E : List Int) (j : Nat), PresP (Off e.ownBlock) w p P → Own base w e E → Vec P.orders E → j < P.orders.length → P.orders.length ≤ fuel + j →
    Calls Tryz.prog 89 #[p, e, .int .i64 j] w (Mut w e.ownBlock fun w' v => v = .tuple #[] ∧ Own base w' e (tgen P fuel E j))

set_option maxHeartbeats 1000000 in
theorem timesVector_of (P : Pr) (hP : Valid P) (fuel : Nat) (ih : TgenOk P fuel) (base : Nat) (w : World) (p e f : Value) (E F : List Int) (hp : PresP (Off e.ownBlock) w p P) (hE : Own base w e E)
    (hv : Vec P.orders E) (hf : Ints (Off e.ownBlock) w f F) (hF : Vec P.orders F) (hz : ∀ j, j < P.orders.length → gt F j ≠ 0 → P.orders.length ≤ fuel + j) :
    Calls Tryz.prog 128 #[p, e, f] w (Mut w e.ownBlock fun w' v => v = .tuple #[] ∧ Own base w' e (tvec (tgen P fuel) E F)) := by
  have hlF : F.length ≤ P.orders.length := by rw [hF.1]; omega
  obtain ⟨a, cap, rfl, hl, hcf⟩ := hf
  go_enter Tryz.func128, Tryz.ntmps128
  go_wp2
  go_loopw [10] (fun i wr => ∃ k : Nat, i = .int .i64 k ∧ k ≤ F.length ∧ w.grownBy wr e.ownBlock ∧ Own base wr e (tvecTo (tgen P fuel) F E k)) (fun i _ => F.length - (intOf i).toNat)
  case atStart => exact ⟨0, rfl, by omega, grown_refl _ _, hE⟩
  case round =>
    obtain ⟨k, rfl, hk, hg, hO⟩ := hrel
    by_cases hlt : k < F.length
    · obtain ⟨b, off, u, rfl, hS, hb, hc, hu⟩ := hcf k hlt
      have hc' : wr.cell? ⟨b, off + k, none⟩ = some u := hg.cell hc (fun h => hS h.symm)
      have hu : u = .int .i64 (gt F k) := hu
      subst hu
      have hx := hF.2 k (by omega)
      have hx0 : 0 ≤ gt F k := hx.1
      have hx7 := hP.ord7 k (by omega)
      have hx1 : gt F k ≤ 7 := by omega
      have hvk : Vec P.orders (tvecTo (tgen P fuel) F E k) := tvecTo_vec (fun e j he hj h0 => tgen_vec hP fuel e j he hj (hz j hj h0)) hv k (by omega)
      clear hx hx7 hcf hc
      go_wp2
      go_loopw [16] (fun i wr => ∃ m : Nat, i = .int .i64 m ∧ m ≤ (gt F k).toNat ∧ w.grownBy wr e.ownBlock ∧ Own base wr e (iter m (fun e => tgen P fuel e k) (tvecTo (tgen P fuel) F E k))) (fun i _ => (gt F k).toNat - (intOf i).toNat)
      case atStart => exact ⟨0, rfl, by omega, hg, hO⟩
      case round =>
        clear hg hO hc'
        obtain ⟨m, rfl, hm, hg, hO⟩ := hrel
        by_cases hlt2 : (m : Int) < gt F k
        · have hkf : P.orders.length ≤ fuel + k := hz k (by omega) (by omega)
          have hvm : Vec P.orders (iter m (fun e => tgen P fuel e k) (tvecTo (tgen P fuel) F E k)) := iter_inv (Vec P.orders) _ (fun x hx => tgen_vec hP fuel x k hx (by omega) hkf) _ _ hvk
          go_wp2_with (go_at_call 89; go_must (refine (ih base _ p e _ k (hp.mono (frame_of hg fun k h _ => ⟨h, h⟩)) hO hvm (by omega) hkf).mono ?_); rintro e1 w1 ⟨v1, rfl, hg1, rfl, hO1⟩)
          go_roundw
          case rel => exact ⟨m + 1, by go_num, by omega, grown_trans hg hg1, hO1⟩
          case measure => simp [intOf]; omega
        · have hme : m = (gt F k).toNat := by omega
          have HO : Hid (Own base wr e (tvecTo (tgen P fuel) F E (k + 1))) := by rw [hme] at hO; exact hO
          clear hO hme
          go_wp2
          go_roundw
          case rel => exact ⟨k + 1, by go_num, by omega, hg, HO.out⟩
          case measure => simp [intOf]; omega
    · have hke : k = F.length := by omega
      have HO : Hid (Own base wr e (tvec (tgen P fuel) E F)) := by rw [hke] at hO; exact hO
      clear hO hke
      go_wp2
      go_end0
      exact ⟨_, rfl, hg, rfl, HO.out⟩

set_option maxHeartbeats 1000000 in
theorem timesGenerator_of (P : Pr) (hP : Valid P) (fuel : Nat) (ih : TgenOk P fuel) : TgenOk P (fuel + 1) := by
  intro base w p e E j hp hE hv hj hf
  have hlE : E.length ≤ P.orders.length ∧ P.orders.length ≤ E.length := by rw [hv.1]; omega
  have hn6 := hP.n6
  obtain ⟨g, cap, rfl, hgb, hgs⟩ := hE.form (by omega)
  obtain ⟨pb, po, rfl⟩ := hp.shape
  have hs := fun w => run_tail w (some ⟨g, 0, none⟩) E.length cap ((j : Int) + 1) (by omega) (by omega)
  go_enter Tryz.func89, Tryz.ntmps89
  have htl : Ints Any w (subSl (.slice (some ⟨g, 0, none⟩) E.length cap) (j + 1) E.length) (E.drop (j + 1)) := by
    have := subSl_ints (ints_of_own hE (by omega) (S := Any) (fun _ _ => trivial)) (j + 1) E.length (by omega) (by omega)
    rwa [List.take_length] at this
  have hxj := hv.2 j hj
  have hoj := hP.ord7 j hj
  go_wp2_with fail
  refine (clone_ok w _ (E.drop (j + 1)) Any htl (by simp; omega)).mono ?_
  rintro e1 w1 ⟨r, rfl, hg1, hR⟩
  clear htl hs
  have hRl : (E.drop (j + 1)).length + j + 1 = E.length := by simp; omega
  have hRv : ∀ k, k < (E.drop (j + 1)).length → 0 ≤ gt (E.drop (j + 1)) k ∧ gt (E.drop (j + 1)) k ≤ 7 := by
    intro k hk
    have h1 := hv.2 (j + 1 + k) (by omega)
    have h2 := hP.ord7 (j + 1 + k) (by omega)
    have h3 : gt (E.drop (j + 1)) k = gt E (j + 1 + k) := by simp only [gt, List.getD_eq_getElem?_getD, List.getElem?_drop]
    rw [h3]; omega
  have hRi : Ints (From w.heap.size) w1 r (E.drop (j + 1)) := ints_of_own hR (by omega) (fun k hk => (hR.lt k hk).1)
  generalize hRe : E.drop (j + 1) = R at *
  obtain ⟨ar, capr, rfl, _, _⟩ := hRi.shape
  have hRl1 : R.length + j + 1 ≤ E.length ∧ E.length ≤ R.length + j + 1 := by omega
  have HR := Lib.hid hRe; clear hRe hRl
  have HRv := Lib.hid hRv; clear hRv
  go_wp2
  go_loopw [17] (fun i wr => ∃ k : Nat, i = .int .i64 k ∧ k ≤ R.length ∧ w1.grownBy wr (some g) ∧ Own base wr (.slice (some ⟨g, 0, none⟩) E.length cap) (zeroed E j k)) (fun i _ => R.length - (intOf i).toNat)
  case atStart => exact ⟨0, rfl, by omega, grown_refl _ _, by rw [zeroed_zero]; exact hE.ext hg1 (.inr (by simp [Value.ownBlock]))⟩
  case round =>
    obtain ⟨k, rfl, hk, hg, hO⟩ := hrel
    by_cases hlt : k < R.length
    · have hlz := length_zeroed E j k (by omega)
      have hc := hO.cell (j + 1 + k) (by omega)
      have hfz := hO.frozen (j + 1 + k)
      have HL := Lib.hid hlz; clear hlz
      go_wp2
      go_roundw
      case rel =>
        obtain ⟨h1, h2⟩ := hO.store (j + 1 + k) 0
        exact ⟨k + 1, by go_num, by omega, grown_trans hg h2, by rw [zeroed_succ _ _ _ (by omega)]; exact h1⟩
      case measure => simp [intOf]; omega
    · have hke : k = R.length := by omega
      subst hke
      have hlz := length_zeroed E j R.length (by omega)
      have hzj : gt (zeroed E j R.length) j = gt E j := by rw [gt_zeroed _ _ _ _ (by omega), if_neg (by omega)]
      have hc := hO.cell j (by omega)
      rw [hzj] at hc
      have hfz := hO.frozen j
      have HL := Lib.hid hlz; clear hlz
      have hs1 := hO.store j (gt E j + 1)
      clear hzj
      go_wp2
      generalize hW : wr.setCell ⟨g, j, none⟩ (.int .i64 (gt E j + 1)) = W2 at hs1 ⊢
      obtain ⟨hO2, hg2⟩ := hs1
      clear hW hc hfz
      have hgw : w.grownBy W2 (some g) := grown_trans (grown_trans (grown_of_ext _ hg1) hg) hg2
      obtain ⟨ao, capo, hc0, hqo⟩ := (hp.mono (frame_of hgw fun k h _ => ⟨h, h⟩)).ordAt
      obtain ⟨bo, oo, rfl, _, _, hco⟩ := Ints.at hqo j hj
      have hlz1 : ((zeroed E j R.length).set j (gt E j + 1)).length = E.length := by rw [List.length_set]; exact HL.out
      have hce := hO2.cell j (by omega)
      rw [gt_set_eq _ _ _ (by have := HL.out; omega)] at hce
      have hfe := hO2.frozen j
      have hR2 : Ints (Off (some g)) W2 (.slice ar R.length capr) R := (hRi.sub (S' := Off (some g)) (fun k hk _ => by unfold Off; intro he; cases he; have : w.heap.size ≤ g := hk; omega)).mono (frame_of (grown_trans hg hg2) fun k h _ => ⟨h, h⟩)
      have hv1 : Vec P.orders (zeroed E j R.length) := hv.zeroed j R.length (by omega)
      have HV1 := Lib.hid hv1; clear hv1
      have HL1 := Lib.hid hlz1; clear hlz1
      clear hg hg2 hO hR hRi hg1 hk hlt hqo
      have hcl := hP.cv j hj
      have hclen : R.length ≤ (gt P.conj j).length := by rw [hcl.1]; omega
      have hjc : j < P.conj.length := by rw [hP.cl]; exact hj
      have hcz : ∀ k, k < R.length → Vec P.orders (gt (gt P.conj j) k) ∧ (∀ i, i < P.orders.length → gt (gt (gt P.conj j) k) i ≠ 0 → P.orders.length ≤ fuel + i) := by
        intro k hk
        obtain ⟨h1, h2⟩ := hcl.2 k (by omega)
        refine ⟨h1, fun i hi h0 => ?_⟩
        have : ¬ i ≤ j := fun h => h0 (h2 i h)
        omega
      have HCZ := Lib.hid hcz; clear hcz hcl
      have hfin : ∀ E2, E2 = (if gt E j + 1 = gt P.orders j then tvec (tgen P fuel) (((zeroed E j R.length).set j (gt E j + 1)).set j 0) (gt P.powers j) else (zeroed E j R.length).set j (gt E j + 1)) →
          tgen P (fuel + 1) E j = tconjTo (tgen P fuel) (gt P.conj j) R E2 R.length := by
        intro E2 h2
        have hr : R = E.drop (j + 1) := HR.out.symm
        rw [h2, hr]; rfl
      have HF := Lib.hid hfin; clear hfin
      by_cases hcar : gt E j + 1 = gt P.orders j
      case' pos =>
        have hb : (gt E j + 1 == gt P.orders j) = true := by simp [hcar]
        obtain ⟨E2, hE2⟩ : ∃ E2, E2 = tvec (tgen P fuel) (((zeroed E j R.length).set j (gt E j + 1)).set j 0) (gt P.powers j) := ⟨_, rfl⟩
        have HF2 := Lib.hid (HF.out E2 (by rw [if_pos hcar]; exact hE2)); clear HF
        have hv4 : Vec P.orders (((zeroed E j R.length).set j (gt E j + 1)).set j 0) := by rw [List.set_set]; exact HV1.out.set j 0 ⟨by omega, fun _ => by omega⟩
        have hpv := hP.pv j hj
        have hzp : ∀ i, i < P.orders.length → gt (gt P.powers j) i ≠ 0 → P.orders.length ≤ fuel + i := by
          intro i hi h0
          have : ¬ i ≤ j := fun h => h0 (hpv.2 i h)
          omega
        have hv5 : Vec P.orders E2 := by
          rw [hE2]
          exact tvec_vec hpv.1 (fun e i he hi h0 => tgen_vec hP fuel e i he hi (hzp i hi h0)) hv4
        have HE2 := Lib.hid hE2; clear hE2
        have HC := Lib.hid hcar; clear hcar
        have HZP := Lib.hid hzp; clear hzp
        have HPV := Lib.hid hpv.1; clear hpv
        go_quiet (fail)
        rename_i nq _
        have hO3 : Own base (W2.drewN nq) (.slice (some ⟨g, 0, none⟩) E.length cap) ((zeroed E j R.length).set j (gt E j + 1)) := hO2
        have hgw3 : w.grownBy (W2.drewN nq) (some g) := grown_trans hgw (grown_drewN _ _ _)
        have hR3 : Ints (Off (some g)) (W2.drewN nq) (.slice ar R.length capr) R := hR2.mono (frame_of (grown_drewN _ _ (some g)) fun k h _ => ⟨h, h⟩)
        have hce3 : (W2.drewN nq).cell? ⟨g, j, none⟩ = some (.int .i64 (gt E j + 1)) := hce
        have hfe3 : (W2.drewN nq).frozen? ⟨g, j, none⟩ = false := hfe
        clear hco hce hfe hc0 hO2 hR2 hgw
        generalize W2.drewN nq = W3 at *
        obtain ⟨hO4, hg4⟩ := hO3.store j 0
        have hgw4 : w.grownBy (W3.setCell ⟨g, j, none⟩ (.int .i64 0)) (some g) := grown_trans hgw3 hg4
        have hp4 : PresP (Off (some g)) (W3.setCell ⟨g, j, none⟩ (.int .i64 0)) (.pointer (some ⟨pb, po, none⟩)) P := hp.mono (frame_of hgw4 fun k h _ => ⟨h, h⟩)
        obtain ⟨ap, capp, hpc, hpr⟩ := hp4.powAt
        obtain ⟨bp, op, ar2, capr2, rfl, _, _, hprc, hpri⟩ := Rows2.at hpr j (by rw [hP.pl]; exact hj)
        have hjp : j < P.powers.length := by rw [hP.pl]; exact hj
        go_wp2_with fail
        refine Calls.mono (timesVector_of P hP fuel ih base _ _ _ _ _ (gt P.powers j) ?_ ?_ hv4 ?_ HPV.out HZP.out) ?_
        · exact hp4
        · exact hO4
        · exact hpri
        rintro e5 W5 ⟨v5, rfl, hg5, rfl, hO5⟩
        rw [← HE2.out] at hO5
        have hgw5 : w.grownBy W5 (some g) := grown_trans hgw4 hg5
        have hR5 : Ints (Off (some g)) W5 (.slice ar R.length capr) R := hR3.mono (frame_of (grown_trans hg4 hg5) fun k h _ => ⟨h, h⟩)
        clear hce3 hfe3 hO3 hR3 hgw3 hp4 hpc hpr hprc hpri hO4 hg4 hgw4 hg5
        go_wp2
      case' neg =>
        have hb : (gt E j + 1 == gt P.orders j) = false := by simp [hcar]
        obtain ⟨E2, hE2⟩ : ∃ E2, E2 = (zeroed E j R.length).set j (gt E j + 1) := ⟨_, rfl⟩
        have HF2 := Lib.hid (HF.out E2 (by rw [if_neg hcar]; exact hE2)); clear HF
        have hv5 : Vec P.orders E2 := by rw [hE2]; exact HV1.out.set j _ ⟨by omega, fun _ => by omega⟩
        rw [← hE2] at hO2
        have HC := Lib.hid hcar; clear hcar hE2
        go_quiet (fail)
        rename_i nq _
        have hgw5 : w.grownBy (W2.drewN nq) (some g) := grown_trans hgw (grown_drewN _ _ _)
        have hO5 : Own base (W2.drewN nq) (.slice (some ⟨g, 0, none⟩) E.length cap) E2 := hO2
        have hR5 : Ints (Off (some g)) (W2.drewN nq) (.slice ar R.length capr) R := hR2.mono (frame_of (grown_drewN _ _ (some g)) fun k h _ => ⟨h, h⟩)
        go_wp2
        clear hco hce hfe hc0 hO2 hR2 hgw
        generalize W2.drewN nq = W5 at *
      all_goals
        go_loopw [60] (fun i wr => ∃ k : Nat, i = .int .i64 k ∧ k ≤ R.length ∧ W5.grownBy wr (some g) ∧ Own base wr (.slice (some ⟨g, 0, none⟩) E.length cap) (tconjTo (tgen P fuel) (gt P.conj j) R E2 k) ∧ Vec P.orders (tconjTo (tgen P fuel) (gt P.conj j) R E2 k)) (fun i _ => R.length - (intOf i).toNat)
        case atStart => exact ⟨0, rfl, by omega, grown_refl _ _, hO5, hv5⟩
        case round =>
          obtain ⟨k, rfl, hk, hg, hO, hvk⟩ := hrel
          by_cases hlt : k < R.length
          · have HCk := Lib.hid (HCZ.out k hlt); clear HCZ
            have hRk := HRv.out k hlt
            have hx0 : 0 ≤ gt R k := hRk.1
            have hx7 : gt R k ≤ 7 := hRk.2
            obtain ⟨br, or, rfl, hbr, _, hcr0⟩ := Ints.at hR5 k hlt
            have hcr : wr.cell? ⟨br, or + k, none⟩ = some (.int .i64 (gt R k)) := hg.cell hcr0 (fun h => hbr h.symm)
            clear hcr0 hRk
            go_wp2
            go_loopw [66] (fun i wr => ∃ m : Nat, i = .int .i64 m ∧ m ≤ (gt R k).toNat ∧ W5.grownBy wr (some g) ∧ Own base wr (.slice (some ⟨g, 0, none⟩) E.length cap) (iter m (fun e => tvec (tgen P fuel) e (gt (gt P.conj j) k)) (tconjTo (tgen P fuel) (gt P.conj j) R E2 k)) ∧ Vec P.orders (iter m (fun e => tvec (tgen P fuel) e (gt (gt P.conj j) k)) (tconjTo (tgen P fuel) (gt P.conj j) R E2 k))) (fun i _ => (gt R k).toNat - (intOf i).toNat)
            case atStart => exact ⟨0, rfl, by omega, hg, hO, hvk⟩
            case round =>
              clear hg hO hcr hvk
              obtain ⟨m, rfl, hm, hg, hO, hvk⟩ := hrel
              by_cases hlt2 : (m : Int) < gt R k
              · have hp6 : PresP (Off (some g)) wr (.pointer (some ⟨pb, po, none⟩)) P := hp.mono (frame_of (grown_trans hgw5 hg) fun k h _ => ⟨h, h⟩)
                obtain ⟨ac, capc, hcc, hcr⟩ := hp6.conjAt
                obtain ⟨bc, oc, ac2, capc2, rfl, _, _, hc6, hcr6⟩ := Rows3.at hcr j hjc
                obtain ⟨bd, od, ad2, capd2, rfl, _, _, hc7, hcr7⟩ := Rows2.at hcr6 k (by omega)
                clear hcr hcr6
                go_wp2_with fail
                refine Calls.mono (timesVector_of P hP fuel ih base wr _ _ _ _ (gt (gt P.conj j) k) hp6 hO hvk hcr7 HCk.out.1 HCk.out.2) ?_
                rintro e6 W6 ⟨v6, rfl, hg6, rfl, hO6⟩
                have hg7 : W5.grownBy W6 (some g) := grown_trans hg hg6
                have hv7 := tvec_vec HCk.out.1 (fun e i he hi h0 => tgen_vec hP fuel e i he hi (HCk.out.2 i hi h0)) hvk
                clear hc6 hc7 hcc hcr7 hp6 hO hg6 hg
                go_wp2
                go_roundw
                case rel => exact ⟨m + 1, by go_num, by omega, hg7, hO6, hv7⟩
                case measure => simp [intOf]; omega
              · have hme : m = (gt R k).toNat := by omega
                subst hme
                go_wp2
                go_roundw
                case rel => exact ⟨k + 1, by go_num, by omega, hg, hO, hvk⟩
                case measure => simp [intOf]; omega
          · have hke : k = R.length := by omega
            subst hke
            go_wp2
            go_end0
            exact ⟨_, rfl, grown_trans hgw5 hg, rfl, by rw [HF2.out]; exact hO⟩

end Go.Proofs.YtoakmefajbbggaaGreat
