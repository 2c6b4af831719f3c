/-
  Plain: a presentation's relations, held by members of a monoid, are kept by the reference's product and by the program's collection (von Dyck's law, without any consistency).
-/
import Derived.Test.YtdfjgpioaomceaaSMul
import Derived.Test.YtdfjgpioaomceaaPc2
namespace Go.Proofs.Ytdfjgpioaomceaa

theorem iter_succ' {α : Type} (f : α → α) (n : Nat) (x : α) : iter (n + 1) f x = iter n f (f x) := by
  induction n with
  | zero => rfl
  | succ n ih => show f (iter (n + 1) f x) = f (iter n f (f x)); rw [ih]
theorem iter_add {α : Type} (f : α → α) (n k : Nat) (x : α) : iter (n + k) f x = iter n f (iter k f x) := by
  induction n with
  | zero => rw [Nat.zero_add]; rfl
  | succ n ih => rw [Nat.succ_add]; show f (iter (n + k) f x) = f (iter n f (iter k f x)); rw [ih]
theorem iter_rel {α β : Type} (R : α → β → Prop) (f : α → α) (g : β → β) (h : ∀ x y, R x y → R (f x) (g y)) (n : Nat) (x : α) (y : β) (hxy : R x y) : R (iter n f x) (iter n g y) := by
  induction n with
  | zero => exact hxy
  | succ n ih => exact h _ _ ih
theorem iter_congr {α : Type} (Q : α → Prop) (f g : α → α) (hQ : ∀ x, Q x → Q (f x)) (h : ∀ x, Q x → f x = g x) (n : Nat) (x : α) (hx : Q x) : iter n f x = iter n g x := by
  induction n with
  | zero => rfl
  | succ n ih =>
    show f (iter n f x) = g (iter n g x)
    rw [← ih]; exact h _ (iter_inv Q f hQ n x hx)

/-- a monoid on the members of S -/
structure MonOn {α : Type} (S : α → Prop) (m : α → α → α) (e : α) : Prop where
  cl : ∀ x y, S x → S y → S (m x y)
  one : S e
  ass : ∀ x y z, S x → S y → S z → m (m x y) z = m x (m y z)
  el : ∀ x, S x → m e x = x
  er : ∀ x, S x → m x e = x

/-- entries of x from index i on, each as often as it says brought to bear on out -/
def acc {α : Type} (g : α → Nat → α) (x : List Int) (i : Nat) (out : α) : Nat → α
  | 0 => out
  | k + 1 => iter (gt x (i + k)).toNat (fun y => g y (i + k)) (acc g x i out k)

theorem acc_front {α : Type} (g : α → Nat → α) (x : List Int) (i : Nat) (out : α) (k : Nat) : acc g x i out (k + 1) = acc g x (i + 1) (iter (gt x i).toNat (fun y => g y i) out) k := by
  induction k with
  | zero => rfl
  | succ k ih =>
    rw [acc, ih]
    show _ = iter (gt x (i + 1 + k)).toNat (fun y => g y (i + 1 + k)) _
    rw [show i + (k + 1) = i + 1 + k by omega]

theorem acc_inv {α : Type} (Q : α → Prop) (g : α → Nat → α) (x : List Int) (i : Nat) (out : α) (k : Nat) (ho : Q out) (h : ∀ y j, Q y → i ≤ j → j < i + k → gt x j ≠ 0 → Q (g y j)) : Q (acc g x i out k) := by
  induction k with
  | zero => exact ho
  | succ k ih =>
    have h1 := ih (fun y j hy a b c => h y j hy a (by omega) c)
    by_cases h0 : gt x (i + k) = 0
    · rw [acc, h0]; exact h1
    · exact iter_inv Q _ (fun y hy => h y (i + k) hy (by omega) (by omega) h0) _ _ h1

theorem acc_rel {α β : Type} (R : α → β → Prop) (g : α → Nat → α) (g' : β → Nat → β) (x : List Int) (i : Nat) (out : α) (out' : β) (k : Nat) (ho : R out out') (h : ∀ y z j, R y z → i ≤ j → j < i + k → gt x j ≠ 0 → R (g y j) (g' z j)) :
    R (acc g x i out k) (acc g' x i out' k) := by
  induction k with
  | zero => exact ho
  | succ k ih =>
    have h1 := ih (fun y z j hy a b c => h y z j hy a (by omega) c)
    by_cases h0 : gt x (i + k) = 0
    · rw [acc, acc, h0]; exact h1
    · exact iter_rel R _ _ (fun y z hy => h y z (i + k) hy (by omega) (by omega) h0) _ _ _ h1

theorem acc_congr {α : Type} (g : α → Nat → α) (x x' : List Int) (i : Nat) (out : α) (k : Nat) (h : ∀ j, i ≤ j → j < i + k → gt x j = gt x' j) : acc g x i out k = acc g x' i out k := by
  induction k with
  | zero => rfl
  | succ k ih => rw [acc, acc, ih (fun j a b => h j a (by omega)), h (i + k) (by omega) (by omega)]

theorem acc_zero {α : Type} (g : α → Nat → α) (x : List Int) (i : Nat) (out : α) (k : Nat) (h : ∀ j, i ≤ j → j < i + k → gt x j = 0) : acc g x i out k = out := by
  induction k with
  | zero => rfl
  | succ k ih => rw [acc, ih (fun j a b => h j a (by omega)), h (i + k) (by omega) (by omega)]; rfl

theorem acc_split {α : Type} (g : α → Nat → α) (x : List Int) (i : Nat) (out : α) (a b : Nat) : acc g x i out (a + b) = acc g x (i + a) (acc g x i out a) b := by
  induction b with
  | zero => rfl
  | succ b ih =>
    show acc g x i out ((a + b) + 1) = _
    rw [acc, acc, ih, show i + (a + b) = i + a + b by omega]

theorem rImgTo_acc (at_ : List Int → List Int → List Int) (cs : List (List Int)) (i : Nat) (x out : List Int) (k : Nat) :
    rImgTo at_ cs i x out k = acc (fun y j => at_ y (gt cs (j - i - 1))) x (i + 1) out k := by
  induction k with
  | zero => rfl
  | succ k ih => rw [rImgTo, acc, ih]; simp only [show i + 1 + k - i - 1 = k by omega]

theorem tvecTo_acc (g : List Int → Nat → List Int) (f e : List Int) (k : Nat) : tvecTo g f e k = acc g f 0 e k := by
  induction k with
  | zero => rfl
  | succ k ih => rw [tvecTo, acc, ih, Nat.zero_add]

theorem tconjTo_acc (g : List Int → Nat → List Int) (cs : List (List Int)) (e : List Int) (j : Nat) (out : List Int) (k : Nat) :
    tconjTo g cs (e.drop (j + 1)) out k = acc (fun y l => tvec g y (gt cs (l - j - 1))) e (j + 1) out k := by
  induction k with
  | zero => rfl
  | succ k ih =>
    rw [tconjTo, acc, ih]
    have : gt (e.drop (j + 1)) k = gt e (j + 1 + k) := by simp [gt]
    simp only [this, show j + 1 + k - j - 1 = k by omega]

section
variable {α : Type} {S : α → Prop} {m : α → α → α} {e : α}

/-- powers -/
theorem MonOn.pow_cl (M : MonOn S m e) {h y : α} (hh : S h) (hy : S y) (k : Nat) : S (iter k (fun y => m y h) y) := iter_inv S _ (fun y hy => M.cl y h hy hh) k y hy
theorem MonOn.pow_out (M : MonOn S m e) {h y : α} (hh : S h) (hy : S y) (k : Nat) : iter k (fun y => m y h) y = m y (iter k (fun y => m y h) e) := by
  induction k with
  | zero => exact (M.er y hy).symm
  | succ k ih =>
    show m (iter k (fun y => m y h) y) h = m y (m (iter k (fun y => m y h) e) h)
    rw [ih, M.ass y _ h hy (M.pow_cl hh M.one k) hh]
theorem MonOn.pow_add (M : MonOn S m e) {h : α} (hh : S h) (a b : Nat) : iter (a + b) (fun y => m y h) e = m (iter a (fun y => m y h) e) (iter b (fun y => m y h) e) := by
  rw [Nat.add_comm, iter_add, M.pow_out hh (M.pow_cl hh M.one a)]

/-- the product of powers of members, from index i on, k of them -/
def npr (m : α → α → α) (h : Nat → α) (x : List Int) (i : Nat) (out : α) (k : Nat) : α := acc (fun y j => m y (h j)) x i out k

theorem npr_cl (M : MonOn S m e) {h : Nat → α} {x : List Int} {i : Nat} {out : α} {k : Nat} (ho : S out) (hh : ∀ j, i ≤ j → j < i + k → S (h j)) : S (npr m h x i out k) :=
  acc_inv S _ x i out k ho (fun y j hy a b _ => M.cl y _ hy (hh j a b))

theorem npr_out (M : MonOn S m e) {h : Nat → α} {x : List Int} {i : Nat} {out : α} {k : Nat} (ho : S out) (hh : ∀ j, i ≤ j → j < i + k → S (h j)) : npr m h x i out k = m out (npr m h x i e k) := by
  induction k with
  | zero => exact (M.er out ho).symm
  | succ k ih =>
    have hh' : ∀ j, i ≤ j → j < i + k → S (h j) := fun j a b => hh j a (by omega)
    have h1 := ih hh'
    unfold npr at h1 ⊢
    rw [acc, acc, h1]
    have c1 : S (npr m h x i e k) := npr_cl M M.one hh'
    have hk := hh (i + k) (by omega) (by omega)
    unfold npr at c1
    rw [M.pow_out hk (M.cl _ _ ho c1), M.pow_out hk c1, M.ass _ _ _ ho c1 (M.pow_cl hk M.one _)]

theorem npr_front (M : MonOn S m e) {h : Nat → α} {x : List Int} {i : Nat} {k : Nat} (hh : ∀ j, i ≤ j → j < i + (k + 1) → S (h j)) :
    npr m h x i e (k + 1) = m (iter (gt x i).toNat (fun y => m y (h i)) e) (npr m h x (i + 1) e k) := by
  have h1 : npr m h x i e (k + 1) = npr m h x (i + 1) (iter (gt x i).toNat (fun y => m y (h i)) e) k := acc_front _ x i e k
  rw [h1]
  exact npr_out M (M.pow_cl (hh i (by omega) (by omega)) M.one _) (fun j a b => hh j (by omega) (by omega))

/-- members h hold the relations of a presentation from index i on -/
structure Holds (P : Pr) (S : α → Prop) (m : α → α → α) (e : α) (h : Nat → α) (i : Nat) : Prop where
  mem : ∀ j, i ≤ j → j < P.orders.length → S (h j)
  pw : ∀ j, i ≤ j → j < P.orders.length → iter (gt P.orders j).toNat (fun y => m y (h j)) e = npr m h (gt P.powers j) (j + 1) e (P.orders.length - (j + 1))
  cj : ∀ j k, i ≤ j → j < k → k < P.orders.length → m (h k) (h j) = m (h j) (npr m h (gt (gt P.conj j) (k - j - 1)) (j + 1) e (P.orders.length - (j + 1)))

theorem Holds.up {P : Pr} {h : Nat → α} {i i' : Nat} (H : Holds P S m e h i) (hi : i ≤ i') : Holds P S m e h i' :=
  ⟨fun j a b => H.mem j (by omega) b, fun j a b => H.pw j (by omega) b, fun j k a b c => H.cj j k (by omega) b c⟩

/-- the image behind a generator -/
theorem vd_image {P : Pr} (hP : Valid P) (M : MonOn S m e) {h : Nat → α} {i f : Nat} (hi : i + (f + 1) = P.orders.length) (H : Holds P S m e h i)
    (ih : ∀ A B, Vec P.orders A → Vec P.orders B → npr m h (rAt P f (i + 1) A B) (i + 1) e f = m (npr m h A (i + 1) e f) (npr m h B (i + 1) e f)) (x : List Int) :
    m (npr m h x (i + 1) e f) (h i) = m (h i) (npr m h (rImage P f i x) (i + 1) e f) := by
  have hm : ∀ j, i ≤ j → j < P.orders.length → S (h j) := H.mem
  have hN : ∀ y, S (npr m h y (i + 1) e f) := fun y => npr_cl M M.one (fun j a b => hm j (by omega) (by omega))
  unfold rImage
  rw [rImgTo_acc]
  have hsi := hm i (by omega) (by omega)
  have hR : (fun (y : α) (z : List Int) => S y ∧ Vec P.orders z ∧ m y (h i) = m (h i) (npr m h z (i + 1) e f)) (npr m h x (i + 1) e f)
      (acc (fun y j => rAt P f (i + 1) y (gt (gt P.conj i) (j - i - 1))) x (i + 1) (zeros P.orders.length) f) := by
    unfold npr
    refine acc_rel (fun (y : α) (z : List Int) => S y ∧ Vec P.orders z ∧ m y (h i) = m (h i) (npr m h z (i + 1) e f)) _ _ x (i + 1) _ _ f ⟨M.one, zeros_vec hP, ?_⟩ ?_
    · have h0 : npr m h (zeros P.orders.length) (i + 1) e f = e := acc_zero _ _ _ _ _ (fun j _ _ => gt_replicate _ _)
      rw [h0, M.el _ hsi, M.er _ hsi]
    · rintro y z j ⟨h1, h2, h3⟩ a b _
      have hc := (hP.cv i (by omega)).2 (j - i - 1) (by omega)
      have hj := hm j (by omega) (by omega)
      refine ⟨M.cl _ _ h1 hj, rAt_vec hP f _ _ _ (by omega) h2 hc.1, ?_⟩
      have h4 := ih z _ h2 hc.1
      have h5 := H.cj i j (by omega) (by omega) (by omega)
      have hf : P.orders.length - (i + 1) = f := by omega
      rw [hf] at h5
      have c1 := hN z
      have c2 := hN (gt (gt P.conj i) (j - i - 1))
      unfold npr at h3 h4 h5 c1 c2 ⊢
      rw [h4, M.ass _ _ _ h1 hj hsi, h5, ← M.ass _ _ _ h1 hsi c2, h3, M.ass _ _ _ hsi c1 c2]
  exact hR.2.2

/-- von Dyck's law for the reference's product -/
theorem vd_at {P : Pr} (hP : Valid P) (M : MonOn S m e) {h : Nat → α} (f : Nat) : ∀ (i : Nat), i + f = P.orders.length → Holds P S m e h i → ∀ A B, Vec P.orders A → Vec P.orders B →
    npr m h (rAt P f i A B) i e f = m (npr m h A i e f) (npr m h B i e f) := by
  induction f with
  | zero => intro i _ _ A B _ _; exact (M.el e M.one).symm
  | succ f ih =>
    intro i hi H A B hA hB
    have IH := ih (i + 1) (by omega) (H.up (by omega))
    have hm : ∀ j, i ≤ j → j < P.orders.length → S (h j) := H.mem
    have hN : ∀ y, S (npr m h y (i + 1) e f) := fun y => npr_cl M M.one (fun j a b => hm j (by omega) (by omega))
    have hsi := hm i (by omega) (by omega)
    have hW : ∀ k, S (iter k (fun y => m y (h i)) e) := fun k => M.pow_cl hsi M.one k
    have him := vd_image hP M hi H IH
    have hset : ∀ (y : List Int) (c : Int), npr m h (y.set i c) (i + 1) e f = npr m h y (i + 1) e f := fun y c =>
      acc_congr _ _ _ _ _ _ (fun j a _ => gt_set_ne _ _ _ _ (by omega))
    have hfr : ∀ y, npr m h y i e (f + 1) = m (iter (gt y i).toNat (fun y => m y (h i)) e) (npr m h y (i + 1) e f) := fun y => npr_front M (fun j a b => hm j a (by omega))
    have ho := hP.ord7 i (by omega)
    have hAi := hA.2 i (by omega)
    have hBi := hB.2 i (by omega)
    -- the left factor drawn through
    have hleft : ∀ b : Nat, Vec P.orders (iter b (fun l => rImgTo (rAt P f (i + 1)) (gt P.conj i) i l (zeros P.orders.length) f) (A.set i 0)) ∧
        m (npr m h A (i + 1) e f) (iter b (fun y => m y (h i)) e) = m (iter b (fun y => m y (h i)) e) (npr m h (iter b (fun l => rImgTo (rAt P f (i + 1)) (gt P.conj i) i l (zeros P.orders.length) f) (A.set i 0)) (i + 1) e f) := by
      intro b
      induction b with
      | zero =>
        refine ⟨hA.set i 0 ⟨by omega, fun _ => by omega⟩, ?_⟩
        show m _ e = m e (npr m h (A.set i 0) (i + 1) e f)
        rw [hset, M.er _ (hN A), M.el _ (hN A)]
      | succ b ihb =>
        obtain ⟨v1, e1⟩ := ihb
        have v2 : Vec P.orders (rImgTo (rAt P f (i + 1)) (gt P.conj i) i (iter b (fun l => rImgTo (rAt P f (i + 1)) (gt P.conj i) i l (zeros P.orders.length) f) (A.set i 0)) (zeros P.orders.length) f) :=
          rImgTo_vec hP f i hi (rAt_vec hP f) _ _ (zeros_vec hP) f (Nat.le_refl _)
        refine ⟨v2, ?_⟩
        have e2 := him (iter b (fun l => rImgTo (rAt P f (i + 1)) (gt P.conj i) i l (zeros P.orders.length) f) (A.set i 0))
        show m _ (m (iter b (fun y => m y (h i)) e) (h i)) = m (m (iter b (fun y => m y (h i)) e) (h i)) (npr m h (rImage P f i _) (i + 1) e f)
        rw [← M.ass _ _ _ (hN A) (hW b) hsi, e1, M.ass _ _ _ (hW b) (hN _) hsi, e2, ← M.ass _ _ _ (hW b) hsi (hN _)]
    obtain ⟨vl, el⟩ := hleft (gt B i).toNat
    have vB : Vec P.orders (B.set i 0) := hB.set i 0 ⟨by omega, fun _ => by omega⟩
    have er := IH _ _ vl vB
    rw [hset B 0] at er
    have vr := rAt_vec hP f (i + 1) _ _ (by omega) vl vB
    rw [hfr A, hfr B]
    -- both sides to one form
    have key : m (m (iter (gt A i).toNat (fun y => m y (h i)) e) (npr m h A (i + 1) e f)) (m (iter (gt B i).toNat (fun y => m y (h i)) e) (npr m h B (i + 1) e f)) =
        m (iter ((gt A i).toNat + (gt B i).toNat) (fun y => m y (h i)) e) (npr m h (rAt P f (i + 1) (iter (gt B i).toNat (fun l => rImgTo (rAt P f (i + 1)) (gt P.conj i) i l (zeros P.orders.length) f) (A.set i 0)) (B.set i 0)) (i + 1) e f) := by
      rw [er, M.pow_add hsi, M.ass _ _ _ (hW _) (hN _) (M.cl _ _ (hW _) (hN _)), ← M.ass _ _ _ (hN A) (hW _) (hN _), el, M.ass _ _ _ (hW _) (hN _) (hN _), ← M.ass _ _ _ (hW _) (hW _) (M.cl _ _ (hN _) (hN _))]
    rw [key, hfr]
    simp only [rAt]
    by_cases hc : gt P.orders i ≤ gt A i + gt B i
    · rw [if_pos hc]
      have vp := (hP.pv i (by omega)).1
      have v3 := rAt_vec hP f (i + 1) _ _ (by omega) vp vr
      rw [hset, gt_set_eq _ _ _ (by rw [v3.1]; omega), IH _ _ vp vr]
      have hsum : (gt A i).toNat + (gt B i).toNat = (gt A i + gt B i - gt P.orders i).toNat + (gt P.orders i).toNat := by omega
      rw [hsum, M.pow_add hsi, H.pw i (by omega) (by omega), show P.orders.length - (i + 1) = f by omega, M.ass _ _ _ (hW _) (hN _) (hN _)]
    · rw [if_neg hc, hset, gt_set_eq _ _ _ (by rw [vr.1]; omega)]
      have hsum : (gt A i).toNat + (gt B i).toNat = (gt A i + gt B i).toNat := by omega
      rw [hsum]

/-- a product in three pieces: ahead of index j, at j, behind j -/
theorem npr_three (M : MonOn S m e) {h : Nat → α} {y : List Int} {i j n : Nat} (hij : i ≤ j) (hj : j < n) (hh : ∀ l, i ≤ l → l < n → S (h l)) :
    npr m h y i e (n - i) = m (m (npr m h y i e (j - i)) (iter (gt y j).toNat (fun y => m y (h j)) e)) (npr m h y (j + 1) e (n - (j + 1))) := by
  have h1 : npr m h y i e (n - i) = npr m h y (j + 1) (iter (gt y j).toNat (fun y => m y (h j)) (npr m h y i e (j - i))) (n - (j + 1)) := by
    unfold npr
    rw [show n - i = (j - i) + ((n - (j + 1)) + 1) by omega, acc_split, acc_front, show i + (j - i) = j by omega]
  have c1 : S (npr m h y i e (j - i)) := npr_cl M M.one (fun l a b => hh l a (by omega))
  rw [h1, npr_out M (M.pow_cl (hh j hij hj) c1 _) (fun l a b => hh l (by omega) (by omega)), M.pow_out (hh j hij hj) c1]

/-- von Dyck's law for the program's collection -/
theorem vd_gen {P : Pr} (hP : Valid P) (M : MonOn S m e) {h : Nat → α} {i : Nat} (H : Holds P S m e h i) (f : Nat) : ∀ (E : List Int) (j : Nat), Vec P.orders E → i ≤ j → j < P.orders.length → P.orders.length ≤ f + j →
    npr m h (tgen P f E j) i e (P.orders.length - i) = m (npr m h E i e (P.orders.length - i)) (h j) := by
  have hm : ∀ j, i ≤ j → j < P.orders.length → S (h j) := H.mem
  have hN : ∀ y, S (npr m h y i e (P.orders.length - i)) := fun y => npr_cl M M.one (fun j a b => hm j a (by omega))
  induction f with
  | zero => intro E j _ _ hj hf; omega
  | succ f ih =>
    intro E j hE hij hj hf
    have hsj := hm j hij hj
    have hT : ∀ y, S (npr m h y (j + 1) e (P.orders.length - (j + 1))) := fun y => npr_cl M M.one (fun l a b => hm l (by omega) (by omega))
    have hpre : ∀ y, S (npr m h y i e (j - i)) := fun y => npr_cl M M.one (fun l a b => hm l a (by omega))
    have hW : ∀ k, S (iter k (fun y => m y (h j)) e) := fun k => M.pow_cl hsj M.one k
    have hvk : ∀ c, Vec P.orders c → ZeroTo j c → ∀ x, Vec P.orders x → Vec P.orders (tvec (tgen P f) x c) := fun c hc hz x hx =>
      tvec_vec hc (fun e i he hi h0 => tgen_vec hP f e i he hi (by
        have : ¬ i ≤ j := fun h => h0 (hz i h)
        omega)) hx
    have hvm : ∀ c, Vec P.orders c → ZeroTo j c → ∀ x, Vec P.orders x →
        npr m h (tvec (tgen P f) x c) i e (P.orders.length - i) = m (npr m h x i e (P.orders.length - i)) (npr m h c (j + 1) e (P.orders.length - (j + 1))) := by
      intro c hc hz x hx
      unfold tvec
      rw [tvecTo_acc, hc.1, show P.orders.length = (j + 1) + (P.orders.length - (j + 1)) by omega, acc_split, acc_zero (tgen P f) c 0 x (j + 1) (fun l _ b => hz l (by omega)), show 0 + (j + 1) = j + 1 by omega,
        show (j + 1) + (P.orders.length - (j + 1)) = P.orders.length by omega]
      have hR := acc_rel (fun (y : α) (z : List Int) => S y ∧ Vec P.orders z ∧ npr m h z i e (P.orders.length - i) = y) (fun y l => m y (h l)) (tgen P f) c (j + 1) (npr m h x i e (P.orders.length - i)) x (P.orders.length - (j + 1))
        ⟨hN x, hx, rfl⟩ (by
          rintro y z l ⟨h1, h2, h3⟩ a b _
          refine ⟨M.cl _ _ h1 (hm l (by omega) (by omega)), tgen_vec hP f z l h2 (by omega) (by omega), ?_⟩
          rw [ih z l h2 (by omega) (by omega) (by omega), h3])
      rw [hR.2.2]
      exact npr_out M (hN x) (fun l a b => hm l (by omega) (by omega))
    have hl := hE.1
    have hzl : j + 1 + (E.drop (j + 1)).length ≤ E.length := by simp; omega
    have hz := hE.zeroed j (E.drop (j + 1)).length hzl
    have hx := hE.2 j hj
    have ho := hP.ord7 j hj
    have hlz := length_zeroed E j (E.drop (j + 1)).length hzl
    have hN3 : ∀ c : Int, npr m h ((zeroed E j (E.drop (j + 1)).length).set j c) i e (P.orders.length - i) = m (npr m h E i e (j - i)) (iter c.toNat (fun y => m y (h j)) e) := by
      intro c
      rw [npr_three M hij hj hm, gt_set_eq _ _ _ (by omega)]
      have e1 : npr m h ((zeroed E j (E.drop (j + 1)).length).set j c) i e (j - i) = npr m h E i e (j - i) :=
        acc_congr _ _ _ _ _ _ (fun l a b => by rw [gt_set_ne _ _ _ _ (by omega), gt_zeroed _ _ _ _ hzl, if_neg (by omega)])
      have e2 : npr m h ((zeroed E j (E.drop (j + 1)).length).set j c) (j + 1) e (P.orders.length - (j + 1)) = e :=
        acc_zero _ _ _ _ _ (fun l a b => by
          rw [gt_set_ne _ _ _ _ (by omega), gt_zeroed _ _ _ _ hzl, if_pos ⟨by omega, by simp; omega⟩])
      rw [e1, e2, M.er _ (M.cl _ _ (hpre E) (hW _))]
    obtain ⟨e2, he2⟩ : ∃ e2, e2 = (if gt E j + 1 = gt P.orders j then tvec (tgen P f) (((zeroed E j (E.drop (j + 1)).length).set j (gt E j + 1)).set j 0) (gt P.powers j) else (zeroed E j (E.drop (j + 1)).length).set j (gt E j + 1)) := ⟨_, rfl⟩
    have h2 : Vec P.orders e2 ∧ npr m h e2 i e (P.orders.length - i) = m (m (npr m h E i e (j - i)) (iter (gt E j).toNat (fun y => m y (h j)) e)) (h j) := by
      have hs : m (npr m h E i e (j - i)) (iter (gt E j + 1).toNat (fun y => m y (h j)) e) = m (m (npr m h E i e (j - i)) (iter (gt E j).toNat (fun y => m y (h j)) e)) (h j) := by
        rw [show (gt E j + 1).toNat = (gt E j).toNat + 1 by omega]
        exact (M.ass _ _ _ (hpre E) (hW _) hsj).symm
      rw [he2]
      split
      · rename_i hc
        rw [List.set_set]
        have hv0 : Vec P.orders ((zeroed E j (E.drop (j + 1)).length).set j 0) := hz.set j 0 ⟨by omega, fun _ => by omega⟩
        refine ⟨hvk _ (hP.pv j hj).1 (hP.pv j hj).2 _ hv0, ?_⟩
        rw [hvm _ (hP.pv j hj).1 (hP.pv j hj).2 _ hv0, hN3, ← H.pw j hij hj, ← hs, hc]
        show m (m _ e) _ = _
        rw [M.er _ (hpre E)]
      · rename_i hc
        exact ⟨hz.set j _ ⟨by omega, fun _ => by omega⟩, by rw [hN3, hs]⟩
    have hdef : tgen P (f + 1) E j = tconjTo (tgen P f) (gt P.conj j) (E.drop (j + 1)) e2 (E.drop (j + 1)).length := by rw [he2]; rfl
    have hdl : (E.drop (j + 1)).length = P.orders.length - (j + 1) := by simp; omega
    rw [hdef, tconjTo_acc, hdl]
    have cQ : S (m (npr m h E i e (j - i)) (iter (gt E j).toNat (fun y => m y (h j)) e)) := M.cl _ _ (hpre E) (hW _)
    have hR := acc_rel (fun (y : α) (z : List Int) => S y ∧ Vec P.orders z ∧ npr m h z i e (P.orders.length - i) = m (m (m (npr m h E i e (j - i)) (iter (gt E j).toNat (fun y => m y (h j)) e)) y) (h j))
      (fun y l => m y (h l)) (fun y l => tvec (tgen P f) y (gt (gt P.conj j) (l - j - 1))) E (j + 1) e e2 (P.orders.length - (j + 1))
      ⟨M.one, h2.1, by rw [h2.2, M.er _ cQ]⟩ (by
        rintro y z l ⟨h3, h4, h5⟩ a b _
        have hc := (hP.cv j hj).2 (l - j - 1) (by omega)
        have hsl := hm l (by omega) (by omega)
        refine ⟨M.cl _ _ h3 hsl, hvk _ hc.1 hc.2 _ h4, ?_⟩
        rw [hvm _ hc.1 hc.2 _ h4, h5, M.ass _ _ _ (M.cl _ _ cQ h3) hsj (hT _), ← H.cj j l hij (by omega) (by omega), ← M.ass _ _ _ (M.cl _ _ cQ h3) hsl hsj, M.ass _ _ _ cQ h3 hsl])
    rw [hR.2.2, npr_three M hij hj hm (y := E)]
    rfl

theorem vd_tg {P : Pr} (hP : Valid P) (M : MonOn S m e) {h : Nat → α} {i : Nat} (H : Holds P S m e h i) (E : List Int) (j : Nat) (hE : Vec P.orders E) (hij : i ≤ j) (hj : j < P.orders.length) :
    npr m h (tg P E j) i e (P.orders.length - i) = m (npr m h E i e (P.orders.length - i)) (h j) := vd_gen hP M H _ E j hE hij hj (by omega)

theorem vd_tv {P : Pr} (hP : Valid P) (M : MonOn S m e) {h : Nat → α} {i : Nat} (hi : i ≤ P.orders.length) (H : Holds P S m e h i) (E F : List Int) (hE : Vec P.orders E) (hF : Vec P.orders F) (hz : ∀ k, k < i → gt F k = 0) :
    npr m h (tv P E F) i e (P.orders.length - i) = m (npr m h E i e (P.orders.length - i)) (npr m h F i e (P.orders.length - i)) := by
  have hm : ∀ j, i ≤ j → j < P.orders.length → S (h j) := H.mem
  have hN : ∀ y, S (npr m h y i e (P.orders.length - i)) := fun y => npr_cl M M.one (fun j a b => hm j a (by omega))
  unfold tv tvec
  rw [tvecTo_acc, hF.1, show P.orders.length = i + (P.orders.length - i) by omega, acc_split, acc_zero (tg P) F 0 E i (fun l _ b => hz l (by omega)), show 0 + i = i by omega,
    show i + (P.orders.length - i) = P.orders.length by omega]
  have hR := acc_rel (fun (y : α) (z : List Int) => S y ∧ Vec P.orders z ∧ npr m h z i e (P.orders.length - i) = y) (fun y l => m y (h l)) (tg P) F i (npr m h E i e (P.orders.length - i)) E (P.orders.length - i)
    ⟨hN E, hE, rfl⟩ (by
      rintro y z l ⟨h1, h2, h3⟩ a b _
      refine ⟨M.cl _ _ h1 (hm l (by omega) (by omega)), tg_vec hP z l h2 (by omega), ?_⟩
      rw [vd_tg hP M H z l h2 (by omega) (by omega), h3])
  rw [hR.2.2]
  exact npr_out M (hN E) (fun l a b => hm l (by omega) (by omega))

end

end Go.Proofs.Ytdfjgpioaomceaa
