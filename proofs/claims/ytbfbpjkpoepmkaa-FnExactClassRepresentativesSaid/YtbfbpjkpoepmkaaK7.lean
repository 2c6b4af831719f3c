/-
  Plain: a presentation's relations, held by members of a monoid, are kept by the reference's product and by the program's collection (von Dyck's law, without any consistency).
  Plain: the cyclic extension of a group by a root of an inner automorphism. No program is named here.
  Plain: level by level a consistent presentation's tails are groups; the program's product is the reference's there, and both find the same faults.
  Plain: a level without a fault makes the tail before it a group; so the two sides' words 'consistent' agree, and in a consistent presentation the two products.
  Plain: the two sides' inverses and conjugates in a consistent presentation.
  Plain: the numbers of elements: num and elAt undo one another.
  Plain: in a consistent presentation the program's classes are the reference's: what the program collects of a member is its conjugacy class, and both count the same sizes.
  Plain: lexicographic order is the order of numbers; all elements stand ascending.
  Plain: the representatives of the classes are the same on both sides.
  impl.ClassRepresentatives: the first rows of the classes; each lies in a block of its own.
  The reference's representatives: spec.l18Firsts, spec.ClassRepresentatives.
  append of one element inside a region that draws its order.
  The rows' arguments: how a presentation that came in, or a list, reads in this claim's words.
-/
import Derived.Test.YtbfbpjkpoepmkaaK2
import Derived.Test.YtbfbpjkpoepmkaaK5
import Derived.Test.YtbfbpjkpoepmkaaK3
import Derived.Test.YtbfbpjkpoepmkaaK6
import Derived.Test.YtbfbpjkpoepmkaaK4
import Derived.Deep.AppendLies
import Derived.Carry
import Derived.Deep.Slices
import Derived.ChangeSame
import Derived.ChangeSlices
import Derived.JoinedOf
import Derived.JoinedAt
import Derived.JoinedCond
import Derived.ReadAgain
/- Plain: a presentation's relations, held by members of a monoid, are kept by the reference's product and by the program's collection (von Dyck's law, without any consistency). -/
namespace Go.Proofs.Ytbfbpjkpoepmkaa

theorem iter_succ' {α : Type} (f : α → α) (n : Nat) (x : α) : iter (n + 1) f x = iter n f (f x) := by
  induction n with
  | zero => rfl
  | succ n ih => show f (iter (n + 1) f x) = f (iter n f (f x)); rw [ih]
theorem iter_add {α : Type} (f : α → α) (n k : Nat) (x : α) : iter (n + k) f x = iter n f (iter k f x) := by
  induction n with
  | zero => rw [Nat.zero_add]; rfl
  | succ n ih => rw [Nat.succ_add]; show f (iter (n + k) f x) = f (iter n f (iter k f x)); rw [ih]
theorem iter_rel {α β : Type} (R : α → β → Prop) (f : α → α) (g : β → β) (h : ∀ x y, R x y → R (f x) (g y)) (n : Nat) (x : α) (y : β) (hxy : R x y) : R (iter n f x) (iter n g y) := by
  induction n with
  | zero => exact hxy
  | succ n ih => exact h _ _ ih
theorem iter_congr {α : Type} (Q : α → Prop) (f g : α → α) (hQ : ∀ x, Q x → Q (f x)) (h : ∀ x, Q x → f x = g x) (n : Nat) (x : α) (hx : Q x) : iter n f x = iter n g x := by
  induction n with
  | zero => rfl
  | succ n ih =>
    show f (iter n f x) = g (iter n g x)
    rw [← ih]; exact h _ (iter_inv Q f hQ n x hx)

/-- a monoid on the members of S -/
structure MonOn {α : Type} (S : α → Prop) (m : α → α → α) (e : α) : Prop where
  cl : ∀ x y, S x → S y → S (m x y)
  one : S e
  ass : ∀ x y z, S x → S y → S z → m (m x y) z = m x (m y z)
  el : ∀ x, S x → m e x = x
  er : ∀ x, S x → m x e = x

/-- entries of x from index i on, each as often as it says brought to bear on out -/
def acc {α : Type} (g : α → Nat → α) (x : List Int) (i : Nat) (out : α) : Nat → α
  | 0 => out
  | k + 1 => iter (gt x (i + k)).toNat (fun y => g y (i + k)) (acc g x i out k)

theorem acc_front {α : Type} (g : α → Nat → α) (x : List Int) (i : Nat) (out : α) (k : Nat) : acc g x i out (k + 1) = acc g x (i + 1) (iter (gt x i).toNat (fun y => g y i) out) k := by
  induction k with
  | zero => rfl
  | succ k ih =>
    rw [acc, ih]
    show _ = iter (gt x (i + 1 + k)).toNat (fun y => g y (i + 1 + k)) _
    rw [show i + (k + 1) = i + 1 + k by omega]

theorem acc_inv {α : Type} (Q : α → Prop) (g : α → Nat → α) (x : List Int) (i : Nat) (out : α) (k : Nat) (ho : Q out) (h : ∀ y j, Q y → i ≤ j → j < i + k → gt x j ≠ 0 → Q (g y j)) : Q (acc g x i out k) := by
  induction k with
  | zero => exact ho
  | succ k ih =>
    have h1 := ih (fun y j hy a b c => h y j hy a (by omega) c)
    by_cases h0 : gt x (i + k) = 0
    · rw [acc, h0]; exact h1
    · exact iter_inv Q _ (fun y hy => h y (i + k) hy (by omega) (by omega) h0) _ _ h1

theorem acc_rel {α β : Type} (R : α → β → Prop) (g : α → Nat → α) (g' : β → Nat → β) (x : List Int) (i : Nat) (out : α) (out' : β) (k : Nat) (ho : R out out') (h : ∀ y z j, R y z → i ≤ j → j < i + k → gt x j ≠ 0 → R (g y j) (g' z j)) :
    R (acc g x i out k) (acc g' x i out' k) := by
  induction k with
  | zero => exact ho
  | succ k ih =>
    have h1 := ih (fun y z j hy a b c => h y z j hy a (by omega) c)
    by_cases h0 : gt x (i + k) = 0
    · rw [acc, acc, h0]; exact h1
    · exact iter_rel R _ _ (fun y z hy => h y z (i + k) hy (by omega) (by omega) h0) _ _ _ h1

theorem acc_congr {α : Type} (g : α → Nat → α) (x x' : List Int) (i : Nat) (out : α) (k : Nat) (h : ∀ j, i ≤ j → j < i + k → gt x j = gt x' j) : acc g x i out k = acc g x' i out k := by
  induction k with
  | zero => rfl
  | succ k ih => rw [acc, acc, ih (fun j a b => h j a (by omega)), h (i + k) (by omega) (by omega)]

theorem acc_zero {α : Type} (g : α → Nat → α) (x : List Int) (i : Nat) (out : α) (k : Nat) (h : ∀ j, i ≤ j → j < i + k → gt x j = 0) : acc g x i out k = out := by
  induction k with
  | zero => rfl
  | succ k ih => rw [acc, ih (fun j a b => h j a (by omega)), h (i + k) (by omega) (by omega)]; rfl

theorem acc_split {α : Type} (g : α → Nat → α) (x : List Int) (i : Nat) (out : α) (a b : Nat) : acc g x i out (a + b) = acc g x (i + a) (acc g x i out a) b := by
  induction b with
  | zero => rfl
  | succ b ih =>
    show acc g x i out ((a + b) + 1) = _
    rw [acc, acc, ih, show i + (a + b) = i + a + b by omega]

theorem rImgTo_acc (at_ : List Int → List Int → List Int) (cs : List (List Int)) (i : Nat) (x out : List Int) (k : Nat) :
    rImgTo at_ cs i x out k = acc (fun y j => at_ y (gt cs (j - i - 1))) x (i + 1) out k := by
  induction k with
  | zero => rfl
  | succ k ih => rw [rImgTo, acc, ih]; simp only [show i + 1 + k - i - 1 = k by omega]

theorem tvecTo_acc (g : List Int → Nat → List Int) (f e : List Int) (k : Nat) : tvecTo g f e k = acc g f 0 e k := by
  induction k with
  | zero => rfl
  | succ k ih => rw [tvecTo, acc, ih, Nat.zero_add]

theorem tconjTo_acc (g : List Int → Nat → List Int) (cs : List (List Int)) (e : List Int) (j : Nat) (out : List Int) (k : Nat) :
    tconjTo g cs (e.drop (j + 1)) out k = acc (fun y l => tvec g y (gt cs (l - j - 1))) e (j + 1) out k := by
  induction k with
  | zero => rfl
  | succ k ih =>
    rw [tconjTo, acc, ih]
    have : gt (e.drop (j + 1)) k = gt e (j + 1 + k) := by simp [gt]
    simp only [this, show j + 1 + k - j - 1 = k by omega]

section
variable {α : Type} {S : α → Prop} {m : α → α → α} {e : α}

/-- powers -/
theorem MonOn.pow_cl (M : MonOn S m e) {h y : α} (hh : S h) (hy : S y) (k : Nat) : S (iter k (fun y => m y h) y) := iter_inv S _ (fun y hy => M.cl y h hy hh) k y hy
theorem MonOn.pow_out (M : MonOn S m e) {h y : α} (hh : S h) (hy : S y) (k : Nat) : iter k (fun y => m y h) y = m y (iter k (fun y => m y h) e) := by
  induction k with
  | zero => exact (M.er y hy).symm
  | succ k ih =>
    show m (iter k (fun y => m y h) y) h = m y (m (iter k (fun y => m y h) e) h)
    rw [ih, M.ass y _ h hy (M.pow_cl hh M.one k) hh]
theorem MonOn.pow_add (M : MonOn S m e) {h : α} (hh : S h) (a b : Nat) : iter (a + b) (fun y => m y h) e = m (iter a (fun y => m y h) e) (iter b (fun y => m y h) e) := by
  rw [Nat.add_comm, iter_add, M.pow_out hh (M.pow_cl hh M.one a)]

/-- the product of powers of members, from index i on, k of them -/
def npr (m : α → α → α) (h : Nat → α) (x : List Int) (i : Nat) (out : α) (k : Nat) : α := acc (fun y j => m y (h j)) x i out k

theorem npr_cl (M : MonOn S m e) {h : Nat → α} {x : List Int} {i : Nat} {out : α} {k : Nat} (ho : S out) (hh : ∀ j, i ≤ j → j < i + k → S (h j)) : S (npr m h x i out k) :=
  acc_inv S _ x i out k ho (fun y j hy a b _ => M.cl y _ hy (hh j a b))

theorem npr_out (M : MonOn S m e) {h : Nat → α} {x : List Int} {i : Nat} {out : α} {k : Nat} (ho : S out) (hh : ∀ j, i ≤ j → j < i + k → S (h j)) : npr m h x i out k = m out (npr m h x i e k) := by
  induction k with
  | zero => exact (M.er out ho).symm
  | succ k ih =>
    have hh' : ∀ j, i ≤ j → j < i + k → S (h j) := fun j a b => hh j a (by omega)
    have h1 := ih hh'
    unfold npr at h1 ⊢
    rw [acc, acc, h1]
    have c1 : S (npr m h x i e k) := npr_cl M M.one hh'
    have hk := hh (i + k) (by omega) (by omega)
    unfold npr at c1
    rw [M.pow_out hk (M.cl _ _ ho c1), M.pow_out hk c1, M.ass _ _ _ ho c1 (M.pow_cl hk M.one _)]

theorem npr_front (M : MonOn S m e) {h : Nat → α} {x : List Int} {i : Nat} {k : Nat} (hh : ∀ j, i ≤ j → j < i + (k + 1) → S (h j)) :
    npr m h x i e (k + 1) = m (iter (gt x i).toNat (fun y => m y (h i)) e) (npr m h x (i + 1) e k) := by
  have h1 : npr m h x i e (k + 1) = npr m h x (i + 1) (iter (gt x i).toNat (fun y => m y (h i)) e) k := acc_front _ x i e k
  rw [h1]
  exact npr_out M (M.pow_cl (hh i (by omega) (by omega)) M.one _) (fun j a b => hh j (by omega) (by omega))

/-- members h hold the relations of a presentation from index i on -/
structure Holds (P : Pr) (S : α → Prop) (m : α → α → α) (e : α) (h : Nat → α) (i : Nat) : Prop where
  mem : ∀ j, i ≤ j → j < P.orders.length → S (h j)
  pw : ∀ j, i ≤ j → j < P.orders.length → iter (gt P.orders j).toNat (fun y => m y (h j)) e = npr m h (gt P.powers j) (j + 1) e (P.orders.length - (j + 1))
  cj : ∀ j k, i ≤ j → j < k → k < P.orders.length → m (h k) (h j) = m (h j) (npr m h (gt (gt P.conj j) (k - j - 1)) (j + 1) e (P.orders.length - (j + 1)))

theorem Holds.up {P : Pr} {h : Nat → α} {i i' : Nat} (H : Holds P S m e h i) (hi : i ≤ i') : Holds P S m e h i' :=
  ⟨fun j a b => H.mem j (by omega) b, fun j a b => H.pw j (by omega) b, fun j k a b c => H.cj j k (by omega) b c⟩

/-- the image behind a generator -/
theorem vd_image {P : Pr} (hP : Valid P) (M : MonOn S m e) {h : Nat → α} {i f : Nat} (hi : i + (f + 1) = P.orders.length) (H : Holds P S m e h i)
    (ih : ∀ A B, Vec P.orders A → Vec P.orders B → npr m h (rAt P f (i + 1) A B) (i + 1) e f = m (npr m h A (i + 1) e f) (npr m h B (i + 1) e f)) (x : List Int) :
    m (npr m h x (i + 1) e f) (h i) = m (h i) (npr m h (rImage P f i x) (i + 1) e f) := by
  have hm : ∀ j, i ≤ j → j < P.orders.length → S (h j) := H.mem
  have hN : ∀ y, S (npr m h y (i + 1) e f) := fun y => npr_cl M M.one (fun j a b => hm j (by omega) (by omega))
  unfold rImage
  rw [rImgTo_acc]
  have hsi := hm i (by omega) (by omega)
  have hR : (fun (y : α) (z : List Int) => S y ∧ Vec P.orders z ∧ m y (h i) = m (h i) (npr m h z (i + 1) e f)) (npr m h x (i + 1) e f)
      (acc (fun y j => rAt P f (i + 1) y (gt (gt P.conj i) (j - i - 1))) x (i + 1) (zeros P.orders.length) f) := by
    unfold npr
    refine acc_rel (fun (y : α) (z : List Int) => S y ∧ Vec P.orders z ∧ m y (h i) = m (h i) (npr m h z (i + 1) e f)) _ _ x (i + 1) _ _ f ⟨M.one, zeros_vec hP, ?_⟩ ?_
    · have h0 : npr m h (zeros P.orders.length) (i + 1) e f = e := acc_zero _ _ _ _ _ (fun j _ _ => gt_replicate _ _)
      rw [h0, M.el _ hsi, M.er _ hsi]
    · rintro y z j ⟨h1, h2, h3⟩ a b _
      have hc := (hP.cv i (by omega)).2 (j - i - 1) (by omega)
      have hj := hm j (by omega) (by omega)
      refine ⟨M.cl _ _ h1 hj, rAt_vec hP f _ _ _ (by omega) h2 hc.1, ?_⟩
      have h4 := ih z _ h2 hc.1
      have h5 := H.cj i j (by omega) (by omega) (by omega)
      have hf : P.orders.length - (i + 1) = f := by omega
      rw [hf] at h5
      have c1 := hN z
      have c2 := hN (gt (gt P.conj i) (j - i - 1))
      unfold npr at h3 h4 h5 c1 c2 ⊢
      rw [h4, M.ass _ _ _ h1 hj hsi, h5, ← M.ass _ _ _ h1 hsi c2, h3, M.ass _ _ _ hsi c1 c2]
  exact hR.2.2

/-- von Dyck's law for the reference's product -/
theorem vd_at {P : Pr} (hP : Valid P) (M : MonOn S m e) {h : Nat → α} (f : Nat) : ∀ (i : Nat), i + f = P.orders.length → Holds P S m e h i → ∀ A B, Vec P.orders A → Vec P.orders B →
    npr m h (rAt P f i A B) i e f = m (npr m h A i e f) (npr m h B i e f) := by
  induction f with
  | zero => intro i _ _ A B _ _; exact (M.el e M.one).symm
  | succ f ih =>
    intro i hi H A B hA hB
    have IH := ih (i + 1) (by omega) (H.up (by omega))
    have hm : ∀ j, i ≤ j → j < P.orders.length → S (h j) := H.mem
    have hN : ∀ y, S (npr m h y (i + 1) e f) := fun y => npr_cl M M.one (fun j a b => hm j (by omega) (by omega))
    have hsi := hm i (by omega) (by omega)
    have hW : ∀ k, S (iter k (fun y => m y (h i)) e) := fun k => M.pow_cl hsi M.one k
    have him := vd_image hP M hi H IH
    have hset : ∀ (y : List Int) (c : Int), npr m h (y.set i c) (i + 1) e f = npr m h y (i + 1) e f := fun y c =>
      acc_congr _ _ _ _ _ _ (fun j a _ => gt_set_ne _ _ _ _ (by omega))
    have hfr : ∀ y, npr m h y i e (f + 1) = m (iter (gt y i).toNat (fun y => m y (h i)) e) (npr m h y (i + 1) e f) := fun y => npr_front M (fun j a b => hm j a (by omega))
    have ho := hP.ord7 i (by omega)
    have hAi := hA.2 i (by omega)
    have hBi := hB.2 i (by omega)
    -- the left factor drawn through
    have hleft : ∀ b : Nat, Vec P.orders (iter b (fun l => rImgTo (rAt P f (i + 1)) (gt P.conj i) i l (zeros P.orders.length) f) (A.set i 0)) ∧
        m (npr m h A (i + 1) e f) (iter b (fun y => m y (h i)) e) = m (iter b (fun y => m y (h i)) e) (npr m h (iter b (fun l => rImgTo (rAt P f (i + 1)) (gt P.conj i) i l (zeros P.orders.length) f) (A.set i 0)) (i + 1) e f) := by
      intro b
      induction b with
      | zero =>
        refine ⟨hA.set i 0 ⟨by omega, fun _ => by omega⟩, ?_⟩
        show m _ e = m e (npr m h (A.set i 0) (i + 1) e f)
        rw [hset, M.er _ (hN A), M.el _ (hN A)]
      | succ b ihb =>
        obtain ⟨v1, e1⟩ := ihb
        have v2 : Vec P.orders (rImgTo (rAt P f (i + 1)) (gt P.conj i) i (iter b (fun l => rImgTo (rAt P f (i + 1)) (gt P.conj i) i l (zeros P.orders.length) f) (A.set i 0)) (zeros P.orders.length) f) :=
          rImgTo_vec hP f i hi (rAt_vec hP f) _ _ (zeros_vec hP) f (Nat.le_refl _)
        refine ⟨v2, ?_⟩
        have e2 := him (iter b (fun l => rImgTo (rAt P f (i + 1)) (gt P.conj i) i l (zeros P.orders.length) f) (A.set i 0))
        show m _ (m (iter b (fun y => m y (h i)) e) (h i)) = m (m (iter b (fun y => m y (h i)) e) (h i)) (npr m h (rImage P f i _) (i + 1) e f)
        rw [← M.ass _ _ _ (hN A) (hW b) hsi, e1, M.ass _ _ _ (hW b) (hN _) hsi, e2, ← M.ass _ _ _ (hW b) hsi (hN _)]
    obtain ⟨vl, el⟩ := hleft (gt B i).toNat
    have vB : Vec P.orders (B.set i 0) := hB.set i 0 ⟨by omega, fun _ => by omega⟩
    have er := IH _ _ vl vB
    rw [hset B 0] at er
    have vr := rAt_vec hP f (i + 1) _ _ (by omega) vl vB
    rw [hfr A, hfr B]
    -- both sides to one form
    have key : m (m (iter (gt A i).toNat (fun y => m y (h i)) e) (npr m h A (i + 1) e f)) (m (iter (gt B i).toNat (fun y => m y (h i)) e) (npr m h B (i + 1) e f)) =
        m (iter ((gt A i).toNat + (gt B i).toNat) (fun y => m y (h i)) e) (npr m h (rAt P f (i + 1) (iter (gt B i).toNat (fun l => rImgTo (rAt P f (i + 1)) (gt P.conj i) i l (zeros P.orders.length) f) (A.set i 0)) (B.set i 0)) (i + 1) e f) := by
      rw [er, M.pow_add hsi, M.ass _ _ _ (hW _) (hN _) (M.cl _ _ (hW _) (hN _)), ← M.ass _ _ _ (hN A) (hW _) (hN _), el, M.ass _ _ _ (hW _) (hN _) (hN _), ← M.ass _ _ _ (hW _) (hW _) (M.cl _ _ (hN _) (hN _))]
    rw [key, hfr]
    simp only [rAt]
    by_cases hc : gt P.orders i ≤ gt A i + gt B i
    · rw [if_pos hc]
      have vp := (hP.pv i (by omega)).1
      have v3 := rAt_vec hP f (i + 1) _ _ (by omega) vp vr
      rw [hset, gt_set_eq _ _ _ (by rw [v3.1]; omega), IH _ _ vp vr]
      have hsum : (gt A i).toNat + (gt B i).toNat = (gt A i + gt B i - gt P.orders i).toNat + (gt P.orders i).toNat := by omega
      rw [hsum, M.pow_add hsi, H.pw i (by omega) (by omega), show P.orders.length - (i + 1) = f by omega, M.ass _ _ _ (hW _) (hN _) (hN _)]
    · rw [if_neg hc, hset, gt_set_eq _ _ _ (by rw [vr.1]; omega)]
      have hsum : (gt A i).toNat + (gt B i).toNat = (gt A i + gt B i).toNat := by omega
      rw [hsum]

/-- a product in three pieces: ahead of index j, at j, behind j -/
theorem npr_three (M : MonOn S m e) {h : Nat → α} {y : List Int} {i j n : Nat} (hij : i ≤ j) (hj : j < n) (hh : ∀ l, i ≤ l → l < n → S (h l)) :
    npr m h y i e (n - i) = m (m (npr m h y i e (j - i)) (iter (gt y j).toNat (fun y => m y (h j)) e)) (npr m h y (j + 1) e (n - (j + 1))) := by
  have h1 : npr m h y i e (n - i) = npr m h y (j + 1) (iter (gt y j).toNat (fun y => m y (h j)) (npr m h y i e (j - i))) (n - (j + 1)) := by
    unfold npr
    rw [show n - i = (j - i) + ((n - (j + 1)) + 1) by omega, acc_split, acc_front, show i + (j - i) = j by omega]
  have c1 : S (npr m h y i e (j - i)) := npr_cl M M.one (fun l a b => hh l a (by omega))
  rw [h1, npr_out M (M.pow_cl (hh j hij hj) c1 _) (fun l a b => hh l (by omega) (by omega)), M.pow_out (hh j hij hj) c1]

/-- von Dyck's law for the program's collection -/
theorem vd_gen {P : Pr} (hP : Valid P) (M : MonOn S m e) {h : Nat → α} {i : Nat} (H : Holds P S m e h i) (f : Nat) : ∀ (E : List Int) (j : Nat), Vec P.orders E → i ≤ j → j < P.orders.length → P.orders.length ≤ f + j →
    npr m h (tgen P f E j) i e (P.orders.length - i) = m (npr m h E i e (P.orders.length - i)) (h j) := by
  have hm : ∀ j, i ≤ j → j < P.orders.length → S (h j) := H.mem
  have hN : ∀ y, S (npr m h y i e (P.orders.length - i)) := fun y => npr_cl M M.one (fun j a b => hm j a (by omega))
  induction f with
  | zero => intro E j _ _ hj hf; omega
  | succ f ih =>
    intro E j hE hij hj hf
    have hsj := hm j hij hj
    have hT : ∀ y, S (npr m h y (j + 1) e (P.orders.length - (j + 1))) := fun y => npr_cl M M.one (fun l a b => hm l (by omega) (by omega))
    have hpre : ∀ y, S (npr m h y i e (j - i)) := fun y => npr_cl M M.one (fun l a b => hm l a (by omega))
    have hW : ∀ k, S (iter k (fun y => m y (h j)) e) := fun k => M.pow_cl hsj M.one k
    have hvk : ∀ c, Vec P.orders c → ZeroTo j c → ∀ x, Vec P.orders x → Vec P.orders (tvec (tgen P f) x c) := fun c hc hz x hx =>
      tvec_vec hc (fun e i he hi h0 => tgen_vec hP f e i he hi (by
        have : ¬ i ≤ j := fun h => h0 (hz i h)
        omega)) hx
    have hvm : ∀ c, Vec P.orders c → ZeroTo j c → ∀ x, Vec P.orders x →
        npr m h (tvec (tgen P f) x c) i e (P.orders.length - i) = m (npr m h x i e (P.orders.length - i)) (npr m h c (j + 1) e (P.orders.length - (j + 1))) := by
      intro c hc hz x hx
      unfold tvec
      rw [tvecTo_acc, hc.1, show P.orders.length = (j + 1) + (P.orders.length - (j + 1)) by omega, acc_split, acc_zero (tgen P f) c 0 x (j + 1) (fun l _ b => hz l (by omega)), show 0 + (j + 1) = j + 1 by omega,
        show (j + 1) + (P.orders.length - (j + 1)) = P.orders.length by omega]
      have hR := acc_rel (fun (y : α) (z : List Int) => S y ∧ Vec P.orders z ∧ npr m h z i e (P.orders.length - i) = y) (fun y l => m y (h l)) (tgen P f) c (j + 1) (npr m h x i e (P.orders.length - i)) x (P.orders.length - (j + 1))
        ⟨hN x, hx, rfl⟩ (by
          rintro y z l ⟨h1, h2, h3⟩ a b _
          refine ⟨M.cl _ _ h1 (hm l (by omega) (by omega)), tgen_vec hP f z l h2 (by omega) (by omega), ?_⟩
          rw [ih z l h2 (by omega) (by omega) (by omega), h3])
      rw [hR.2.2]
      exact npr_out M (hN x) (fun l a b => hm l (by omega) (by omega))
    have hl := hE.1
    have hzl : j + 1 + (E.drop (j + 1)).length ≤ E.length := by simp; omega
    have hz := hE.zeroed j (E.drop (j + 1)).length hzl
    have hx := hE.2 j hj
    have ho := hP.ord7 j hj
    have hlz := length_zeroed E j (E.drop (j + 1)).length hzl
    have hN3 : ∀ c : Int, npr m h ((zeroed E j (E.drop (j + 1)).length).set j c) i e (P.orders.length - i) = m (npr m h E i e (j - i)) (iter c.toNat (fun y => m y (h j)) e) := by
      intro c
      rw [npr_three M hij hj hm, gt_set_eq _ _ _ (by omega)]
      have e1 : npr m h ((zeroed E j (E.drop (j + 1)).length).set j c) i e (j - i) = npr m h E i e (j - i) :=
        acc_congr _ _ _ _ _ _ (fun l a b => by rw [gt_set_ne _ _ _ _ (by omega), gt_zeroed _ _ _ _ hzl, if_neg (by omega)])
      have e2 : npr m h ((zeroed E j (E.drop (j + 1)).length).set j c) (j + 1) e (P.orders.length - (j + 1)) = e :=
        acc_zero _ _ _ _ _ (fun l a b => by
          rw [gt_set_ne _ _ _ _ (by omega), gt_zeroed _ _ _ _ hzl, if_pos ⟨by omega, by simp; omega⟩])
      rw [e1, e2, M.er _ (M.cl _ _ (hpre E) (hW _))]
    obtain ⟨e2, he2⟩ : ∃ e2, e2 = (if gt E j + 1 = gt P.orders j then tvec (tgen P f) (((zeroed E j (E.drop (j + 1)).length).set j (gt E j + 1)).set j 0) (gt P.powers j) else (zeroed E j (E.drop (j + 1)).length).set j (gt E j + 1)) := ⟨_, rfl⟩
    have h2 : Vec P.orders e2 ∧ npr m h e2 i e (P.orders.length - i) = m (m (npr m h E i e (j - i)) (iter (gt E j).toNat (fun y => m y (h j)) e)) (h j) := by
      have hs : m (npr m h E i e (j - i)) (iter (gt E j + 1).toNat (fun y => m y (h j)) e) = m (m (npr m h E i e (j - i)) (iter (gt E j).toNat (fun y => m y (h j)) e)) (h j) := by
        rw [show (gt E j + 1).toNat = (gt E j).toNat + 1 by omega]
        exact (M.ass _ _ _ (hpre E) (hW _) hsj).symm
      rw [he2]
      split
      · rename_i hc
        rw [List.set_set]
        have hv0 : Vec P.orders ((zeroed E j (E.drop (j + 1)).length).set j 0) := hz.set j 0 ⟨by omega, fun _ => by omega⟩
        refine ⟨hvk _ (hP.pv j hj).1 (hP.pv j hj).2 _ hv0, ?_⟩
        rw [hvm _ (hP.pv j hj).1 (hP.pv j hj).2 _ hv0, hN3, ← H.pw j hij hj, ← hs, hc]
        show m (m _ e) _ = _
        rw [M.er _ (hpre E)]
      · rename_i hc
        exact ⟨hz.set j _ ⟨by omega, fun _ => by omega⟩, by rw [hN3, hs]⟩
    have hdef : tgen P (f + 1) E j = tconjTo (tgen P f) (gt P.conj j) (E.drop (j + 1)) e2 (E.drop (j + 1)).length := by rw [he2]; rfl
    have hdl : (E.drop (j + 1)).length = P.orders.length - (j + 1) := by simp; omega
    rw [hdef, tconjTo_acc, hdl]
    have cQ : S (m (npr m h E i e (j - i)) (iter (gt E j).toNat (fun y => m y (h j)) e)) := M.cl _ _ (hpre E) (hW _)
    have hR := acc_rel (fun (y : α) (z : List Int) => S y ∧ Vec P.orders z ∧ npr m h z i e (P.orders.length - i) = m (m (m (npr m h E i e (j - i)) (iter (gt E j).toNat (fun y => m y (h j)) e)) y) (h j))
      (fun y l => m y (h l)) (fun y l => tvec (tgen P f) y (gt (gt P.conj j) (l - j - 1))) E (j + 1) e e2 (P.orders.length - (j + 1))
      ⟨M.one, h2.1, by rw [h2.2, M.er _ cQ]⟩ (by
        rintro y z l ⟨h3, h4, h5⟩ a b _
        have hc := (hP.cv j hj).2 (l - j - 1) (by omega)
        have hsl := hm l (by omega) (by omega)
        refine ⟨M.cl _ _ h3 hsl, hvk _ hc.1 hc.2 _ h4, ?_⟩
        rw [hvm _ hc.1 hc.2 _ h4, h5, M.ass _ _ _ (M.cl _ _ cQ h3) hsj (hT _), ← H.cj j l hij (by omega) (by omega), ← M.ass _ _ _ (M.cl _ _ cQ h3) hsl hsj, M.ass _ _ _ cQ h3 hsl])
    rw [hR.2.2, npr_three M hij hj hm (y := E)]
    rfl

theorem vd_tg {P : Pr} (hP : Valid P) (M : MonOn S m e) {h : Nat → α} {i : Nat} (H : Holds P S m e h i) (E : List Int) (j : Nat) (hE : Vec P.orders E) (hij : i ≤ j) (hj : j < P.orders.length) :
    npr m h (tg P E j) i e (P.orders.length - i) = m (npr m h E i e (P.orders.length - i)) (h j) := vd_gen hP M H _ E j hE hij hj (by omega)

theorem vd_tv {P : Pr} (hP : Valid P) (M : MonOn S m e) {h : Nat → α} {i : Nat} (hi : i ≤ P.orders.length) (H : Holds P S m e h i) (E F : List Int) (hE : Vec P.orders E) (hF : Vec P.orders F) (hz : ∀ k, k < i → gt F k = 0) :
    npr m h (tv P E F) i e (P.orders.length - i) = m (npr m h E i e (P.orders.length - i)) (npr m h F i e (P.orders.length - i)) := by
  have hm : ∀ j, i ≤ j → j < P.orders.length → S (h j) := H.mem
  have hN : ∀ y, S (npr m h y i e (P.orders.length - i)) := fun y => npr_cl M M.one (fun j a b => hm j a (by omega))
  unfold tv tvec
  rw [tvecTo_acc, hF.1, show P.orders.length = i + (P.orders.length - i) by omega, acc_split, acc_zero (tg P) F 0 E i (fun l _ b => hz l (by omega)), show 0 + i = i by omega,
    show i + (P.orders.length - i) = P.orders.length by omega]
  have hR := acc_rel (fun (y : α) (z : List Int) => S y ∧ Vec P.orders z ∧ npr m h z i e (P.orders.length - i) = y) (fun y l => m y (h l)) (tg P) F i (npr m h E i e (P.orders.length - i)) E (P.orders.length - i)
    ⟨hN E, hE, rfl⟩ (by
      rintro y z l ⟨h1, h2, h3⟩ a b _
      refine ⟨M.cl _ _ h1 (hm l (by omega) (by omega)), tg_vec hP z l h2 (by omega), ?_⟩
      rw [vd_tg hP M H z l h2 (by omega) (by omega), h3])
  rw [hR.2.2]
  exact npr_out M (hN E) (fun l a b => hm l (by omega) (by omega))

end

end Go.Proofs.Ytbfbpjkpoepmkaa

/- Plain: the cyclic extension of a group by a root of an inner automorphism. No program is named here. -/
namespace Go.Proofs.Ytbfbpjkpoepmkaa

/-- a group on the members of S -/
structure GrpOn {α : Type} (S : α → Prop) (m : α → α → α) (e : α) : Prop extends MonOn S m e where
  inv : ∀ x, S x → ∃ y, S y ∧ m x y = e ∧ m y x = e

section
variable {α : Type} {S : α → Prop} {m : α → α → α} {e : α}

theorem GrpOn.of_right (M : MonOn S m e) (h : ∀ x, S x → ∃ y, S y ∧ m x y = e) : GrpOn S m e := by
  refine ⟨M, fun x hx => ?_⟩
  obtain ⟨y, hy, h1⟩ := h x hx
  obtain ⟨z, hz, h2⟩ := h y hy
  have : x = z := by
    have h3 : m (m x y) z = m x (m y z) := M.ass x y z hx hy hz
    rw [h1, h2, M.el z hz, M.er x hx] at h3
    exact h3.symm
  exact ⟨y, hy, h1, by rw [this]; exact h2⟩

theorem GrpOn.cancel (G : GrpOn S m e) {a x y : α} (ha : S a) (hx : S x) (hy : S y) (h : m a x = m a y) : x = y := by
  obtain ⟨b, hb, _, h2⟩ := G.inv a ha
  have h3 : m b (m a x) = m b (m a y) := by rw [h]
  rw [← G.ass b a x hb ha hx, ← G.ass b a y hb ha hy, h2, G.el x hx, G.el y hy] at h3
  exact h3

theorem GrpOn.right_left (G : GrpOn S m e) {a b : α} (ha : S a) (hb : S b) (h : m a b = e) : m b a = e := by
  obtain ⟨c, hc, h1, h2⟩ := G.inv a ha
  have : b = c := G.cancel ha hb hc (by rw [h, h1])
  rw [this]; exact h2

/-- b a = x with b the inverse of a: y = a⁻¹ x, as a product -/
theorem GrpOn.solve (G : GrpOn S m e) {a b x y : α} (ha : S a) (hb : S b) (hx : S x) (hy : S y) (hab : m a b = e) : m b x = y ↔ x = m a y := by
  have hba := G.right_left ha hb hab
  constructor
  · intro h; rw [← h, ← G.ass a b x ha hb hx, hab, G.el x hx]
  · intro h; rw [h, ← G.ass b a y hb ha hy, hba, G.el y hy]

/-- the product of pairs -/
def exm (m : α → α → α) (φ : α → α) (w : α) (o : Nat) (p q : Nat × α) : Nat × α :=
  if o ≤ p.1 + q.1 then (p.1 + q.1 - o, m w (m (iter q.1 φ p.2) q.2)) else (p.1 + q.1, m (iter q.1 φ p.2) q.2)

/-- what a cyclic extension needs -/
structure ExtOk (S : α → Prop) (m : α → α → α) (e : α) (φ : α → α) (w : α) (o : Nat) : Prop where
  o2 : 2 ≤ o
  grp : GrpOn S m e
  cl : ∀ x, S x → S (φ x)
  hom : ∀ x y, S x → S y → φ (m x y) = m (φ x) (φ y)
  wS : S w
  wφ : φ w = w
  root : ∀ x, S x → m w (iter o φ x) = m x w

variable {φ : α → α} {w : α} {o : Nat}

theorem ExtOk.icl (E : ExtOk S m e φ w o) (k : Nat) (x : α) (hx : S x) : S (iter k φ x) := iter_inv S φ E.cl k x hx
theorem ExtOk.ihom (E : ExtOk S m e φ w o) (k : Nat) (x y : α) (hx : S x) (hy : S y) : iter k φ (m x y) = m (iter k φ x) (iter k φ y) := by
  induction k with
  | zero => rfl
  | succ k ih => show φ (iter k φ (m x y)) = _; rw [ih]; exact E.hom _ _ (E.icl k x hx) (E.icl k y hy)
theorem ExtOk.iw (E : ExtOk S m e φ w o) (k : Nat) : iter k φ w = w := by
  induction k with
  | zero => rfl
  | succ k ih => show φ (iter k φ w) = w; rw [ih]; exact E.wφ
theorem ExtOk.one (E : ExtOk S m e φ w o) : φ e = e := by
  have h := E.hom e e E.grp.one E.grp.one
  rw [E.grp.el e E.grp.one] at h
  have c := E.cl e E.grp.one
  exact (E.grp.cancel c E.grp.one c (by rw [E.grp.er _ c]; exact h)).symm
theorem ExtOk.ione (E : ExtOk S m e φ w o) (k : Nat) : iter k φ e = e := by
  induction k with
  | zero => rfl
  | succ k ih => show φ (iter k φ e) = e; rw [ih]; exact E.one
/-- drawing w through -/
theorem ExtOk.draw (E : ExtOk S m e φ w o) (k : Nat) (hk : o ≤ k) (x : α) (hx : S x) : m (iter (k - o) φ x) w = m w (iter k φ x) := by
  rw [← E.root _ (E.icl _ x hx), ← iter_add, show o + (k - o) = k by omega]

/-- the pairs' set -/
def ExS (S : α → Prop) (o : Nat) (p : Nat × α) : Prop := p.1 < o ∧ S p.2

theorem ExtOk.exm_cl (E : ExtOk S m e φ w o) (p q : Nat × α) (hp : ExS S o p) (hq : ExS S o q) : ExS S o (exm m φ w o p q) := by
  obtain ⟨a, x⟩ := p
  obtain ⟨b, y⟩ := q
  obtain ⟨ha, hx⟩ := hp
  obtain ⟨hb, hy⟩ := hq
  have c := E.grp.cl _ _ (E.icl b x hx) hy
  simp only at ha hb hx hy
  unfold exm
  simp only
  split
  · exact ⟨by show a + b - o < o; omega, E.grp.cl _ _ E.wS c⟩
  · exact ⟨by show a + b < o; omega, c⟩

theorem ExtOk.exm_ass (E : ExtOk S m e φ w o) (p q r : Nat × α) (hp : ExS S o p) (hq : ExS S o q) (hr : ExS S o r) : exm m φ w o (exm m φ w o p q) r = exm m φ w o p (exm m φ w o q r) := by
  obtain ⟨a, x⟩ := p
  obtain ⟨b, y⟩ := q
  obtain ⟨c, z⟩ := r
  obtain ⟨ha, hx⟩ := hp
  obtain ⟨hb, hy⟩ := hq
  obtain ⟨hc, hz⟩ := hr
  simp only at ha hb hc hx hy hz
  have M := E.grp.toMonOn
  have cw := E.wS
  have c1 := E.icl b x hx
  have c2 := E.icl c _ c1
  have c3 := E.icl c y hy
  have c4 := M.cl _ _ c1 hy
  have c5 := M.cl _ _ c3 hz
  -- the left side's inner part, and the right side's
  have hL : iter c φ (m (iter b φ x) y) = m (iter c φ (iter b φ x)) (iter c φ y) := E.ihom c _ _ c1 hy
  have hLw : iter c φ (m w (m (iter b φ x) y)) = m w (m (iter c φ (iter b φ x)) (iter c φ y)) := by rw [E.ihom c _ _ cw c4, E.iw, hL]
  have hbc : iter (b + c) φ x = iter c φ (iter b φ x) := by rw [Nat.add_comm, iter_add]
  have c6 := M.cl _ _ c2 c3
  have hK : m (m (iter c φ (iter b φ x)) (iter c φ y)) z = m (iter c φ (iter b φ x)) (m (iter c φ y) z) := M.ass _ _ _ c2 c3 hz
  have hKw : m (m w (m (iter c φ (iter b φ x)) (iter c φ y))) z = m w (m (iter c φ (iter b φ x)) (m (iter c φ y) z)) := by rw [M.ass _ _ _ cw c6 hz, hK]
  have hR : o ≤ b + c → m (iter (b + c - o) φ x) (m w (m (iter c φ y) z)) = m w (m (iter c φ (iter b φ x)) (m (iter c φ y) z)) := by
    intro h
    rw [← M.ass _ _ _ (E.icl _ x hx) cw c5, E.draw _ h x hx, hbc, M.ass _ _ _ cw c2 c5]
  unfold exm
  by_cases e1 : o ≤ a + b
  · by_cases d1 : o ≤ b + c
    · simp only [if_pos e1, if_pos d1]
      by_cases e2 : o ≤ a + b - o + c
      · have d2 : o ≤ a + (b + c - o) := by omega
        simp only [if_pos e2, if_pos d2]
        rw [hLw, hKw, hR d1, show a + b - o + c - o = a + (b + c - o) - o by omega]
      · have d2 : ¬ o ≤ a + (b + c - o) := by omega
        simp only [if_neg e2, if_neg d2]
        rw [hLw, hKw, hR d1, show a + b - o + c = a + (b + c - o) by omega]
    · simp only [if_pos e1, if_neg d1]
      have e2 : ¬ o ≤ a + b - o + c := by omega
      have d2 : o ≤ a + (b + c) := by omega
      simp only [if_neg e2, if_pos d2]
      rw [hLw, hKw, hbc, show a + b - o + c = a + (b + c) - o by omega]
  · by_cases d1 : o ≤ b + c
    · simp only [if_neg e1, if_pos d1]
      have e2 : o ≤ a + b + c := by omega
      have d2 : ¬ o ≤ a + (b + c - o) := by omega
      simp only [if_pos e2, if_neg d2]
      rw [hL, hK, hR d1, show a + b + c - o = a + (b + c - o) by omega]
    · simp only [if_neg e1, if_neg d1]
      by_cases e2 : o ≤ a + b + c
      · have d2 : o ≤ a + (b + c) := by omega
        simp only [if_pos e2, if_pos d2]
        rw [hL, hK, hbc, show a + b + c - o = a + (b + c) - o by omega]
      · have d2 : ¬ o ≤ a + (b + c) := by omega
        simp only [if_neg e2, if_neg d2]
        rw [hL, hK, hbc, show a + b + c = a + (b + c) by omega]

/-- the extension is a group -/
theorem ExtOk.group (E : ExtOk S m e φ w o) : GrpOn (ExS S o) (exm m φ w o) (0, e) := by
  have M := E.grp.toMonOn
  have ho := E.o2
  have hM : MonOn (ExS S o) (exm m φ w o) (0, e) := by
    refine ⟨E.exm_cl, ⟨by show 0 < o; omega, M.one⟩, E.exm_ass, ?_, ?_⟩
    · rintro ⟨a, x⟩ ⟨ha, hx⟩
      simp only at ha hx
      unfold exm
      simp only [Nat.zero_add, if_neg (by omega : ¬ o ≤ a), E.ione, M.el x hx]
    · rintro ⟨a, x⟩ ⟨ha, hx⟩
      simp only at ha hx
      unfold exm
      simp only [Nat.add_zero, if_neg (by omega : ¬ o ≤ a)]
      show (a, m x e) = (a, x)
      rw [M.er x hx]
  refine GrpOn.of_right hM ?_
  rintro ⟨a, x⟩ ⟨ha, hx⟩
  simp only at ha hx
  by_cases h0 : a = 0
  · subst h0
    obtain ⟨y, hy, h1, _⟩ := E.grp.inv x hx
    refine ⟨(0, y), ⟨by show 0 < o; omega, hy⟩, ?_⟩
    unfold exm
    simp only [Nat.add_zero, if_neg (by omega : ¬ o ≤ 0)]
    show (0, m x y) = (0, e)
    rw [h1]
  · obtain ⟨y, hy, h1, _⟩ := E.grp.inv _ (M.cl _ _ E.wS (E.icl (o - a) x hx))
    refine ⟨(o - a, y), ⟨by show o - a < o; omega, hy⟩, ?_⟩
    unfold exm
    simp only [if_pos (by omega : o ≤ a + (o - a))]
    rw [← M.ass _ _ _ E.wS (E.icl _ x hx) hy, h1, show a + (o - a) - o = 0 by omega]

/-- a group carried over to another set of names -/
theorem GrpOn.carry {β : Type} {S' : β → Prop} {m' : β → β → β} {e' : β} (G : GrpOn S m e) (f : α → β) (hS : ∀ x, S x → S' (f x)) (hsur : ∀ y, S' y → ∃ x, S x ∧ f x = y) (he : f e = e')
    (hm : ∀ x y, S x → S y → m' (f x) (f y) = f (m x y)) : GrpOn S' m' e' := by
  subst he
  refine ⟨⟨?_, hS e G.one, ?_, ?_, ?_⟩, ?_⟩
  · intro x y hx hy
    obtain ⟨a, ha, rfl⟩ := hsur x hx
    obtain ⟨b, hb, rfl⟩ := hsur y hy
    rw [hm a b ha hb]; exact hS _ (G.cl _ _ ha hb)
  · intro x y z hx hy hz
    obtain ⟨a, ha, rfl⟩ := hsur x hx
    obtain ⟨b, hb, rfl⟩ := hsur y hy
    obtain ⟨c, hc, rfl⟩ := hsur z hz
    rw [hm a b ha hb, hm _ c (G.cl _ _ ha hb) hc, hm b c hb hc, hm a _ ha (G.cl _ _ hb hc), G.ass a b c ha hb hc]
  · intro x hx
    obtain ⟨a, ha, rfl⟩ := hsur x hx
    rw [hm e a G.one ha, G.el a ha]
  · intro x hx
    obtain ⟨a, ha, rfl⟩ := hsur x hx
    rw [hm a e ha G.one, G.er a ha]
  · intro x hx
    obtain ⟨a, ha, rfl⟩ := hsur x hx
    obtain ⟨b, hb, h1, h2⟩ := G.inv a ha
    exact ⟨f b, hS b hb, by rw [hm a b ha hb, h1], by rw [hm b a hb ha, h2]⟩

end
end Go.Proofs.Ytbfbpjkpoepmkaa

/- Plain: level by level a consistent presentation's tails are groups; the program's product is the reference's there, and both find the same faults. -/
namespace Go.Proofs.Ytbfbpjkpoepmkaa

/-- vectors with zeros ahead of index i -/
def T (P : Pr) (i : Nat) (x : List Int) : Prop := Vec P.orders x ∧ ∀ k, k < i → gt x k = 0

theorem T.up {P : Pr} {i : Nat} {x : List Int} (h : T P i x) (h0 : gt x i = 0) : T P (i + 1) x := ⟨h.1, fun k hk => by
  rcases Nat.lt_succ_iff_lt_or_eq.1 hk with h1 | h1
  · exact h.2 k h1
  · rw [h1]; exact h0⟩
theorem T.down {P : Pr} {i j : Nat} {x : List Int} (h : T P j x) (hij : i ≤ j) : T P i x := ⟨h.1, fun k hk => h.2 k (by omega)⟩
theorem T.of_zeroTo {P : Pr} {i : Nat} {x : List Int} (h : Vec P.orders x) (hz : ZeroTo i x) : T P (i + 1) x := ⟨h, fun k hk => hz k (by omega)⟩
theorem T.zeros {P : Pr} (hP : Valid P) (i : Nat) : T P i (zeros P.orders.length) := ⟨zeros_vec hP, fun _ _ => gt_replicate _ _⟩
theorem T.drop {P : Pr} (hP : Valid P) {i : Nat} (hi : i < P.orders.length) {x : List Int} (h : T P i x) : T P (i + 1) (x.set i 0) := by
  have ho := hP.ord7 i hi
  refine ⟨h.1.set i 0 ⟨by omega, fun _ => by omega⟩, fun k hk => ?_⟩
  by_cases e : i = k
  · subst e; rw [gt_set_eq _ _ _ (by rw [h.1.1]; exact hi)]
  · rw [gt_set_ne _ _ _ _ e]; exact h.2 k (by omega)
theorem T.put {P : Pr} {i : Nat} {x : List Int} (h : T P (i + 1) x) {a : Int} (ha : 0 ≤ a ∧ (i < P.orders.length → a < gt P.orders i)) : T P i (x.set i a) :=
  ⟨h.1.set i a ha, fun k hk => by rw [gt_set_ne _ _ _ _ (by omega)]; exact h.2 k (by omega)⟩
theorem gt_set_if {α : Type} [Inhabited α] (l : List α) (i j : Nat) (x : α) (hj : j < l.length) : gt (l.set i x) j = if i = j then x else gt l j := by
  by_cases h : i = j
  · subst h; rw [gt_set_eq _ _ _ hj, if_pos rfl]
  · rw [gt_set_ne _ _ _ _ h, if_neg h]
theorem gt_unit (n j k : Nat) (hk : k < n) : gt (unitV n j) k = if j = k then 1 else 0 := by
  unfold unitV
  rw [gt_set_if _ _ _ _ (by simpa using hk), gt_replicate]
theorem T.unit {P : Pr} (hP : Valid P) {i j : Nat} (hij : i ≤ j) (hj : j < P.orders.length) : T P i (unitV P.orders.length j) :=
  ⟨unitV_vec hP j, fun k hk => by rw [gt_unit _ _ _ (by omega), if_neg (by omega)]⟩
theorem Vec.ext {o x y : List Int} (hx : Vec o x) (hy : Vec o y) (h : ∀ k, k < o.length → gt x k = gt y k) : x = y :=
  ext_gt (by rw [hx.1, hy.1]) (fun k hk => h k (by rw [← hx.1]; exact hk))
theorem T.top {P : Pr} (hP : Valid P) {x : List Int} (h : T P P.orders.length x) : x = Go.Proofs.Ytbfbpjkpoepmkaa.zeros P.orders.length :=
  Vec.ext h.1 (zeros_vec hP) (fun k hk => by rw [h.2 k hk]; exact (gt_replicate _ _).symm)

theorem rAt_T {P : Pr} (hP : Valid P) (f : Nat) : ∀ i A B, i + f = P.orders.length → Vec P.orders A → Vec P.orders B → T P i (rAt P f i A B) := by
  induction f with
  | zero => intro i A B _ _ _; exact T.zeros hP i
  | succ f ih =>
    intro i A B hi hA hB
    refine ⟨rAt_vec hP _ i A B hi hA hB, fun k hk => ?_⟩
    have ho := hP.ord7 i (by omega)
    have hAi := hA.2 i (by omega)
    have hBi := hB.2 i (by omega)
    have hl : Vec P.orders (iter (gt B i).toNat (fun l => rImgTo (rAt P f (i + 1)) (gt P.conj i) i l (zeros P.orders.length) f) (A.set i 0)) :=
      iter_inv (Vec P.orders) _ (fun y hy => rImgTo_vec hP f i hi (rAt_vec hP f) _ _ (zeros_vec hP) f (Nat.le_refl _)) _ _ (hA.set i 0 ⟨by omega, fun _ => by omega⟩)
    have vB : Vec P.orders (B.set i 0) := hB.set i 0 ⟨by omega, fun _ => by omega⟩
    have hr := ih (i + 1) _ _ (by omega) hl vB
    simp only [rAt]
    split
    · rw [gt_set_ne _ _ _ _ (by omega)]
      exact (ih (i + 1) _ _ (by omega) (hP.pv i (by omega)).1 hr.1).2 k (by omega)
    · rw [gt_set_ne _ _ _ _ (by omega)]
      exact hr.2 k (by omega)

theorem tg_T {P : Pr} (hP : Valid P) {i : Nat} {E : List Int} (hE : T P i E) {j : Nat} (hij : i ≤ j) (hj : j < P.orders.length) : T P i (tg P E j) :=
  ⟨tg_vec hP E j hE.1 hj, fun k hk => by
    have := (tgen_entries hP P.orders.length E j hE.1 hj (by omega)).1 k (by omega)
    have h2 : gt (tg P E j) k = gt E k := this
    rw [h2]; exact hE.2 k hk⟩
theorem tv_T {P : Pr} (hP : Valid P) {i : Nat} {E F : List Int} (hE : T P i E) (hF : T P i F) : T P i (tv P E F) := by
  unfold tv tvec
  rw [tvecTo_acc, hF.1.1]
  refine acc_inv (T P i) _ _ _ _ _ hE (fun y j hy _ hj h0 => tg_T hP hy ?_ (by omega))
  have : ¬ j < i := fun h => h0 (hF.2 j h)
  omega

/-- the tail at i is a group in which the relations hold, and each member is the product of its entries' powers -/
structure Lvl (P : Pr) (f i : Nat) : Prop where
  grp : GrpOn (T P i) (rAt P f i) (zeros P.orders.length)
  nf : ∀ x, T P i x → npr (rAt P f i) (unitV P.orders.length) x i (zeros P.orders.length) f = x
  rel : Holds P (T P i) (rAt P f i) (zeros P.orders.length) (unitV P.orders.length) i

theorem Lvl.top {P : Pr} (hP : Valid P) : Lvl P 0 P.orders.length := by
  have hz := T.zeros hP P.orders.length
  refine ⟨⟨⟨fun _ _ _ _ => hz, hz, fun _ _ _ _ _ _ => rfl, fun x hx => (hx.top hP).symm, fun x hx => (hx.top hP).symm⟩, fun x _ => ⟨_, hz, rfl, rfl⟩⟩, fun x hx => ?_, ⟨fun j a b => by omega, fun j a b => by omega, fun j k a b c => by omega⟩⟩
  exact (hx.top hP).symm

section
variable {P : Pr} {f i : Nat}

theorem Lvl.tv_eq (hP : Valid P) (hi : i + f = P.orders.length) (L : Lvl P f i) {E F : List Int} (hE : T P i E) (hF : T P i F) : tv P E F = rAt P f i E F := by
  have h := vd_tv hP L.grp.toMonOn (by omega) L.rel E F hE.1 hF.1 hF.2
  rw [show P.orders.length - i = f by omega, L.nf _ hE, L.nf _ hF, L.nf _ (tv_T hP hE hF)] at h
  exact h
theorem Lvl.tg_eq (hP : Valid P) (hi : i + f = P.orders.length) (L : Lvl P f i) {E : List Int} (hE : T P i E) {j : Nat} (hij : i ≤ j) (hj : j < P.orders.length) : tg P E j = rAt P f i E (unitV P.orders.length j) := by
  have h := vd_tg hP L.grp.toMonOn L.rel E j hE.1 hij hj
  rw [show P.orders.length - i = f by omega, L.nf _ hE, L.nf _ (tg_T hP hE hij hj)] at h
  exact h

theorem Lvl.iPow_eq (hP : Valid P) (hi : i + f = P.orders.length) (L : Lvl P f i) {a : List Int} (ha : T P i a) (k : Int) : iPow P a k = iter k.toNat (fun y => rAt P f i y a) (zeros P.orders.length) := by
  unfold iPow
  rw [ha.1.1]
  exact iter_congr (T P i) _ _ (fun x hx => tv_T hP hx ha) (fun x hx => L.tv_eq hP hi hx ha) _ _ (T.zeros hP i)

/-- square and multiply is the power -/
theorem rRepF_pow {S : List Int → Prop} {m : List Int → List Int → List Int} {e : List Int} (M : MonOn S m e) : ∀ (f : Nat) (out base : List Int) (k : Nat), S out → S base → k ≤ f →
    rRepF m f out base k = m out (iter k (fun y => m y base) e) := by
  intro f
  induction f with
  | zero =>
    intro out base k ho hb hk
    have : k = 0 := by omega
    subst this
    exact (M.er out ho).symm
  | succ f ih =>
    intro out base k ho hb hk
    simp only [rRepF]
    split
    · rename_i h; subst h; exact (M.er out ho).symm
    · rename_i h
      have hbb := M.cl _ _ hb hb
      have hsq : ∀ q, iter q (fun y => m y (m base base)) e = iter (2 * q) (fun y => m y base) e := by
        intro q
        induction q with
        | zero => rfl
        | succ q ihq =>
          show m (iter q (fun y => m y (m base base)) e) (m base base) = m (m (iter (2 * q) (fun y => m y base) e) base) base
          rw [ihq, M.ass _ _ _ (M.pow_cl hb M.one _) hb hb]
      by_cases hodd : k % 2 = 1
      · rw [if_pos hodd, ih _ _ _ (M.cl _ _ ho hb) hbb (by omega), hsq, M.ass _ _ _ ho hb (M.pow_cl hb M.one _)]
        congr 1
        have h1 := M.pow_add hb 1 (2 * (k / 2))
        rw [show 1 + 2 * (k / 2) = k by omega] at h1
        rw [h1]
        show m base _ = m (m e base) _
        rw [M.el base hb]
      · rw [if_neg hodd, ih _ _ _ ho hbb (by omega), hsq, show 2 * (k / 2) = k by omega]

theorem Lvl.rRep_eq (L : Lvl P f i) {a : List Int} (ha : T P i a) (k : Nat) : rRep (rAt P f i) (zeros P.orders.length) a k = iter k (fun y => rAt P f i y a) (zeros P.orders.length) := by
  unfold rRep
  rw [rRepF_pow L.grp.toMonOn k _ _ k L.grp.one ha (Nat.le_refl _)]
  exact L.grp.el _ (L.grp.toMonOn.pow_cl ha L.grp.one k)

/-- the program's inverse -/
theorem Lvl.iInv_eq (hP : Valid P) (hi : i + f = P.orders.length) (L : Lvl P f i) {a : List Int} (ha : T P i a) : T P i (iInv P a) ∧ rAt P f i a (iInv P a) = zeros P.orders.length := by
  have key : ∀ k, k ≤ P.orders.length → T P i (invTo P a k).1 ∧ T P i (invTo P a k).2 ∧ (invTo P a k).1 = rAt P f i a (invTo P a k).2 ∧ ∀ l, l < k → gt (invTo P a k).1 l = 0 := by
    intro k
    induction k with
    | zero =>
      intro _
      refine ⟨ha, by simp only [invTo]; rw [ha.1.1]; exact T.zeros hP i, ?_, fun l hl => by omega⟩
      simp only [invTo]
      rw [ha.1.1]
      exact (L.grp.er a ha).symm
    | succ k ih =>
      intro hk
      obtain ⟨h1, h2, h3, h4⟩ := ih (by omega)
      simp only [invTo]
      by_cases h0 : gt (invTo P a k).1 k = 0
      · have hm : left_ (gt P.orders k) (gt (invTo P a k).1 k) = 0 := by unfold left_; rw [if_pos h0]
        rw [hm]
        refine ⟨h1, h2, h3, fun l hl => ?_⟩
        rcases Nat.lt_succ_iff_lt_or_eq.1 hl with h | h
        · exact h4 l h
        · rw [h]; exact h0
      · have hik : i ≤ k := by
          have : ¬ k < i := fun h => h0 (h1.2 k h)
          omega
        have hR := iter_rel (fun (x y : List Int) => T P i x ∧ T P i y ∧ x = rAt P f i a y ∧ ∀ l, l < k → gt x l = 0) (fun e => tg P e k) (fun e => tg P e k) (by
          rintro x y ⟨g1, g2, g3, g4⟩
          refine ⟨tg_T hP g1 hik (by omega), tg_T hP g2 hik (by omega), ?_, fun l hl => ?_⟩
          · show tg P x k = rAt P f i a (tg P y k)
            rw [L.tg_eq hP hi g1 hik (by omega), L.tg_eq hP hi g2 hik (by omega), g3, L.grp.ass _ _ _ ha g2 (T.unit hP hik (by omega))]
          · have h5 := (tgen_entries hP P.orders.length x k g1.1 (by omega) (by omega)).1 l hl
            have h6 : gt (tg P x k) l = gt x l := h5
            show gt (tg P x k) l = 0
            rw [h6]; exact g4 l hl) (left_ (gt P.orders k) (gt (invTo P a k).1 k)) _ _ ⟨h1, h2, h3, h4⟩
        obtain ⟨g1, g2, g3, g4⟩ := hR
        refine ⟨g1, g2, g3, fun l hl => ?_⟩
        rcases Nat.lt_succ_iff_lt_or_eq.1 hl with h | h
        · exact g4 l h
        · have h7 := (iter_tg hP (invTo P a k).1 k (by omega) h1.1 h0 _ (Nat.le_refl _)).2
          rw [if_pos rfl] at h7
          rw [h]; exact h7
  obtain ⟨h1, h2, h3, h4⟩ := key P.orders.length (Nat.le_refl _)
  have he : iInv P a = (invTo P a P.orders.length).2 := by unfold iInv; rw [ha.1.1]
  rw [he]
  refine ⟨h2, ?_⟩
  rw [← h3]
  exact T.top hP ⟨h1.1, h4⟩

theorem Lvl.iConj_iff (hP : Valid P) (hi : i + f = P.orders.length) (L : Lvl P f i) {a b z : List Int} (ha : T P i a) (hb : T P i b) (hz : T P i z) : iConj P a b = z ↔ rAt P f i a b = rAt P f i b z := by
  obtain ⟨h1, h2⟩ := L.iInv_eq hP hi hb
  have hab := tv_T hP ha hb
  unfold iConj
  rw [L.tv_eq hP hi h1 hab, L.tv_eq hP hi ha hb]
  exact L.grp.solve hb h1 (L.grp.cl _ _ ha hb) hz h2

end

section
variable {P : Pr} {f i : Nat}

theorem rImage_T (hP : Valid P) (hi : i + (f + 1) = P.orders.length) (x : List Int) : T P (i + 1) (rImage P f i x) := by
  unfold rImage
  rw [rImgTo_acc]
  refine acc_inv (T P (i + 1)) _ _ _ _ _ (T.zeros hP _) (fun y j hy a b _ => ?_)
  exact rAt_T hP f (i + 1) _ _ (by omega) hy.1 ((hP.cv i (by omega)).2 (j - i - 1) (by omega)).1

theorem cj_T (hP : Valid P) {j : Nat} (hi : i < j) (hj : j < P.orders.length) : T P (i + 1) (gt (gt P.conj i) (j - i - 1)) :=
  T.of_zeroTo ((hP.cv i (by omega)).2 (j - i - 1) (by omega)).1 ((hP.cv i (by omega)).2 (j - i - 1) (by omega)).2
theorem pw_T (hP : Valid P) (hi : i < P.orders.length) : T P (i + 1) (gt P.powers i) := T.of_zeroTo (hP.pv i hi).1 (hP.pv i hi).2

theorem Lvl.iImg_eq (hP : Valid P) (hi : i + (f + 1) = P.orders.length) (L : Lvl P f (i + 1)) {x : List Int} (hx : x.length = P.orders.length) : iImg P i x = rImage P f i x := by
  unfold iImg rImage
  rw [(hP.cv i (by omega)).1, show P.orders.length - 1 - i = f by omega, hx, rImgTo_acc, rImgTo_acc]
  exact (acc_rel (fun y z : List Int => y = z ∧ T P (i + 1) y) _ _ x (i + 1) _ _ f ⟨rfl, T.zeros hP _⟩ (by
    rintro y z j ⟨rfl, hy⟩ a b _
    have hc := cj_T (i := i) hP (j := j) (by omega) (by omega)
    exact ⟨L.tv_eq hP (by omega) hy hc, tv_T hP hy hc⟩)).1

/-- both sides see the same faults at a level behind which all is well -/
theorem Lvl.iff (hP : Valid P) (hi : i + (f + 1) = P.orders.length) (L : Lvl P f (i + 1)) : ILevel P i ↔ RLevel P f i := by
  have hi1 : i + 1 + f = P.orders.length := by omega
  have e1 : ∀ J, i < J → J < P.orders.length → (ICond1 P i J ↔ RCond1 P f i J) := fun J a b => by
    unfold ICond1 RCond1
    have hc := cj_T (i := i) hP a b
    rw [L.iPow_eq hP hi1 hc, L.rRep_eq hc, L.iImg_eq hP hi (hP.pv J b).1.1]
  have e2 : ∀ J K, i < J → J < K → K < P.orders.length → (ICond2 P i J K ↔ RCond2 P f i J K) := fun J K a b c => by
    unfold ICond2 RCond2
    have h1 := cj_T (i := i) hP (j := K) (by omega) c
    have h2 := cj_T (i := i) hP (j := J) a (by omega)
    rw [L.iImg_eq hP hi (((hP.cv J (by omega)).2 (K - J - 1) (by omega)).1.1)]
    exact L.iConj_iff hP hi1 h1 h2 (rImage_T hP hi _)
  have e3 : ICond3 P i ↔ RCond3 P f i := by
    unfold ICond3 RCond3
    rw [L.iImg_eq hP hi (hP.pv i (by omega)).1.1]
  have e4 : ∀ J, i < J → J < P.orders.length → (ICond4 P i J ↔ RCond4 P f i J) := fun J a b => by
    unfold ICond4 RCond4
    have hu : T P (i + 1) (unitV P.orders.length J) := T.unit hP (by omega) b
    have h1 : iter (gt P.orders i).toNat (fun x => iImg P i x) (unitV P.orders.length J) = iter (gt P.orders i).toNat (fun x => rImage P f i x) (unitV P.orders.length J) :=
      iter_congr (Vec P.orders) _ _ (fun x hx => iImg_vec hP i (by omega) x hx) (fun x hx => L.iImg_eq hP hi hx.1) _ _ hu.1
    have h2 : T P (i + 1) (iter (gt P.orders i).toNat (fun x => rImage P f i x) (unitV P.orders.length J)) := iter_inv (T P (i + 1)) _ (fun x _ => rImage_T hP hi x) _ _ hu
    rw [h1, eq_comm, L.iConj_iff hP hi1 hu (pw_T hP (by omega)) h2, eq_comm]
  constructor
  · intro h
    exact ⟨fun J a b => (e1 J a b).1 (h.c1 J a b), fun J K a b c => (e2 J K a b c).1 (h.c2 J K a b c), e3.1 h.c3, fun J a b => (e4 J a b).1 (h.c4 J a b)⟩
  · intro h
    exact ⟨fun J a b => (e1 J a b).2 (h.c1 J a b), fun J K a b c => (e2 J K a b c).2 (h.c2 J K a b c), e3.2 h.c3, fun J a b => (e4 J a b).2 (h.c4 J a b)⟩

end
end Go.Proofs.Ytbfbpjkpoepmkaa

/- Plain: a level without a fault makes the tail before it a group; so the two sides' words 'consistent' agree, and in a consistent presentation the two products. -/
namespace Go.Proofs.Ytbfbpjkpoepmkaa

section
variable {P : Pr} {f i : Nat}

/-- a pair as a vector -/
def prV (i : Nat) (p : Nat × List Int) : List Int := p.2.set i (p.1 : Int)

theorem prV_T (hP : Valid P) (hi : i < P.orders.length) {p : Nat × List Int} (hp : ExS (T P (i + 1)) (gt P.orders i).toNat p) : T P i (prV i p) := by
  have ho := hP.ord7 i hi
  have h1 := hp.1
  exact hp.2.put ⟨by omega, fun _ => by omega⟩

theorem prV_sur (hP : Valid P) (hi : i < P.orders.length) {x : List Int} (hx : T P i x) : ∃ p, ExS (T P (i + 1)) (gt P.orders i).toNat p ∧ prV i p = x := by
  have ho := hP.ord7 i hi
  have hxi := hx.1.2 i hi
  refine ⟨((gt x i).toNat, x.set i 0), ⟨by show (gt x i).toNat < _; omega, hx.drop hP hi⟩, ?_⟩
  unfold prV
  simp only [List.set_set]
  refine ext_gt (by simp) (fun k hk => ?_)
  rw [List.length_set] at hk
  rw [gt_set_if _ _ _ _ hk]
  split
  · rename_i h; subst h; omega
  · rfl

theorem set_zero_of {x : List Int} (h : T P (i + 1) x) : x.set i 0 = x := by
  refine ext_gt (by simp) (fun k hk => ?_)
  rw [List.length_set] at hk
  rw [gt_set_if _ _ _ _ hk]
  split
  · rename_i e; subst e; exact (h.2 i (by omega)).symm
  · rfl

theorem prV_mul (hP : Valid P) (hi : i + (f + 1) = P.orders.length) (p q : Nat × List Int) (hp : ExS (T P (i + 1)) (gt P.orders i).toNat p) (hq : ExS (T P (i + 1)) (gt P.orders i).toNat q) :
    rAt P (f + 1) i (prV i p) (prV i q) = prV i (exm (rAt P f (i + 1)) (rImage P f i) (gt P.powers i) (gt P.orders i).toNat p q) := by
  obtain ⟨a, x⟩ := p
  obtain ⟨b, y⟩ := q
  obtain ⟨ha, hx⟩ := hp
  obtain ⟨hb, hy⟩ := hq
  simp only at ha hb hx hy
  have ho := hP.ord7 i (by omega)
  have ga : gt (prV i (a, x)) i = (a : Int) := gt_set_eq _ _ _ (by show i < x.length; rw [hx.1.1]; omega)
  have gb : gt (prV i (b, y)) i = (b : Int) := gt_set_eq _ _ _ (by show i < y.length; rw [hy.1.1]; omega)
  have sa : (prV i (a, x)).set i 0 = x := by unfold prV; rw [List.set_set]; exact set_zero_of hx
  have sb : (prV i (b, y)).set i 0 = y := by unfold prV; rw [List.set_set]; exact set_zero_of hy
  simp only [rAt, ga, gb, sa, sb]
  unfold exm
  simp only
  have him : (fun l => rImgTo (rAt P f (i + 1)) (gt P.conj i) i l (zeros P.orders.length) f) = rImage P f i := rfl
  rw [him, show ((b : Int)).toNat = b by omega]
  by_cases hc : (gt P.orders i).toNat ≤ a + b
  · rw [if_pos (by omega), if_pos hc]
    unfold prV
    simp only
    congr 1
    omega
  · rw [if_neg (by omega), if_neg hc]
    unfold prV
    simp only
    congr 1

/-- what a faultless level gives -/
theorem Lvl.ext (hP : Valid P) (hi : i + (f + 1) = P.orders.length) (L : Lvl P f (i + 1)) (R : RLevel P f i) :
    ExtOk (T P (i + 1)) (rAt P f (i + 1)) (zeros P.orders.length) (rImage P f i) (gt P.powers i) (gt P.orders i).toNat ∧
      ∀ j, i < j → j < P.orders.length → rImage P f i (unitV P.orders.length j) = gt (gt P.conj i) (j - i - 1) := by
  have M := L.grp.toMonOn
  have ho := hP.ord7 i (by omega)
  have hf : P.orders.length - (i + 1) = f := by omega
  have hmem : ∀ j, i + 1 ≤ j → j < P.orders.length → T P (i + 1) (gt (gt P.conj i) (j - i - 1)) := fun j a b => cj_T hP (by omega) b
  have hImg : ∀ x, rImage P f i x = npr (rAt P f (i + 1)) (fun j => gt (gt P.conj i) (j - i - 1)) x (i + 1) (zeros P.orders.length) f := fun x => by
    unfold rImage npr; rw [rImgTo_acc]
  have hImgAt : ∀ (j : Nat) (x : List Int), i < j → j < P.orders.length → ZeroTo j x → rImage P f i x = npr (rAt P f (i + 1)) (fun j => gt (gt P.conj i) (j - i - 1)) x (j + 1) (zeros P.orders.length) (P.orders.length - (j + 1)) := fun j x a b hz => by
    rw [hImg]
    unfold npr
    rw [show f = (j - i) + (P.orders.length - (j + 1)) by omega, acc_split, acc_zero _ _ _ _ (j - i) (fun k _ c => hz k (by omega)), show i + 1 + (j - i) = j + 1 by omega]
  have H : Holds P (T P (i + 1)) (rAt P f (i + 1)) (zeros P.orders.length) (fun j => gt (gt P.conj i) (j - i - 1)) (i + 1) := by
    refine ⟨hmem, fun j a b => ?_, fun j k a b c => ?_⟩
    · have h := R.c1 j (by omega) b
      unfold RCond1 at h
      rw [L.rRep_eq (hmem j a b), hImgAt j _ (by omega) b (hP.pv j b).2] at h
      exact h
    · have h := R.c2 j k (by omega) b c
      unfold RCond2 at h
      rw [hImgAt j _ (by omega) (by omega) ((hP.cv j (by omega)).2 (k - j - 1) (by omega)).2] at h
      exact h
  have hom : ∀ A B, Vec P.orders A → Vec P.orders B → rImage P f i (rAt P f (i + 1) A B) = rAt P f (i + 1) (rImage P f i A) (rImage P f i B) := fun A B hA hB => by
    rw [hImg, hImg, hImg]
    exact vd_at hP M f (i + 1) (by omega) H A B hA hB
  have hunit : ∀ j, i < j → j < P.orders.length → rImage P f i (unitV P.orders.length j) = gt (gt P.conj i) (j - i - 1) := fun j a b => by
    rw [hImg]
    unfold npr
    rw [show f = (j - (i + 1)) + ((P.orders.length - (j + 1)) + 1) by omega, acc_split, acc_zero _ _ _ _ (j - (i + 1)) (fun k _ c => by rw [gt_unit _ _ _ (by omega), if_neg (by omega)]), acc_front, show i + 1 + (j - (i + 1)) = j by omega,
      acc_zero _ _ (j + 1) _ _ (fun k c d => by rw [gt_unit _ _ _ (by omega), if_neg (by omega)]), gt_unit _ _ _ b, if_pos rfl]
    show rAt P _ (i + 1) (zeros P.orders.length) _ = _
    rw [show j - (i + 1) + (P.orders.length - (j + 1) + 1) = f by omega]
    exact M.el _ (hmem j (by omega) b)
  refine ⟨?_, hunit⟩
  have hw := pw_T (i := i) hP (by omega)
  have ihom : ∀ (k : Nat) (x y : List Int), T P (i + 1) x → T P (i + 1) y → iter k (rImage P f i) (rAt P f (i + 1) x y) = rAt P f (i + 1) (iter k (rImage P f i) x) (iter k (rImage P f i) y) := by
    intro k x y hx hy
    have := (iter_rel (fun (u : List Int) (v : List Int × List Int) => T P (i + 1) v.1 ∧ T P (i + 1) v.2 ∧ u = rAt P f (i + 1) v.1 v.2) (rImage P f i) (fun v => (rImage P f i v.1, rImage P f i v.2)) (by
      rintro u ⟨v1, v2⟩ ⟨h1, h2, rfl⟩
      exact ⟨rImage_T hP hi _, rImage_T hP hi _, hom _ _ h1.1 h2.1⟩) k (rAt P f (i + 1) x y) (x, y) ⟨hx, hy, rfl⟩).2.2
    rw [this]
    have e : ∀ k, iter k (fun v : List Int × List Int => (rImage P f i v.1, rImage P f i v.2)) (x, y) = (iter k (rImage P f i) x, iter k (rImage P f i) y) := by
      intro k
      induction k with
      | zero => rfl
      | succ k ih => show (fun v : List Int × List Int => (rImage P f i v.1, rImage P f i v.2)) (iter k _ (x, y)) = _; rw [ih]; rfl
    rw [e]
  have icl : ∀ (k : Nat) (x : List Int), T P (i + 1) x → T P (i + 1) (iter k (rImage P f i) x) := fun k x hx => iter_inv (T P (i + 1)) _ (fun y _ => rImage_T hP hi y) k x hx
  refine ⟨by omega, L.grp, fun x _ => rImage_T hP hi x, fun x y hx hy => hom x y hx.1 hy.1, hw, R.c3, ?_⟩
  intro x hx
  have hone : rImage P f i (zeros P.orders.length) = zeros P.orders.length := by
    rw [hImg]; exact acc_zero _ _ _ _ _ (fun j _ _ => gt_replicate _ _)
  have hione : ∀ k, iter k (rImage P f i) (zeros P.orders.length) = zeros P.orders.length := by
    intro k
    induction k with
    | zero => rfl
    | succ k ih => show rImage P f i (iter k _ _) = _; rw [ih, hone]
  have key : (fun y => T P (i + 1) y ∧ rAt P f (i + 1) (gt P.powers i) (iter (gt P.orders i).toNat (rImage P f i) y) = rAt P f (i + 1) y (gt P.powers i)) (npr (rAt P f (i + 1)) (unitV P.orders.length) x (i + 1) (zeros P.orders.length) f) := by
    unfold npr
    refine acc_inv (fun y => T P (i + 1) y ∧ rAt P f (i + 1) (gt P.powers i) (iter (gt P.orders i).toNat (rImage P f i) y) = rAt P f (i + 1) y (gt P.powers i)) _ _ _ _ _ ⟨L.grp.one, by rw [hione, M.er _ hw, M.el _ hw]⟩ (fun y j hy a b _ => ?_)
    obtain ⟨h1, h2⟩ := hy
    have hu : T P (i + 1) (unitV P.orders.length j) := T.unit hP a (by omega)
    have h4 := R.c4 j (by omega) (by omega)
    unfold RCond4 at h4
    refine ⟨M.cl _ _ h1 hu, ?_⟩
    rw [ihom _ _ _ h1 hu, ← M.ass _ _ _ hw (icl _ _ h1) (icl _ _ hu), h2, M.ass _ _ _ h1 hw (icl _ _ hu)]
    have h5 : rAt P f (i + 1) (gt P.powers i) (iter (gt P.orders i).toNat (rImage P f i) (unitV P.orders.length j)) = rAt P f (i + 1) (unitV P.orders.length j) (gt P.powers i) := h4
    rw [h5, M.ass _ _ _ h1 hu hw]
  rw [L.nf x hx] at key
  exact key.2

theorem Lvl.step (hP : Valid P) (hi : i + (f + 1) = P.orders.length) (L : Lvl P f (i + 1)) (R : RLevel P f i) : Lvl P (f + 1) i := by
  obtain ⟨E, hunit⟩ := L.ext hP hi R
  have hin : i < P.orders.length := by omega
  have ho := hP.ord7 i hin
  have M' := L.grp.toMonOn
  have hz0 : prV i (0, zeros P.orders.length) = zeros P.orders.length := set_zero_of (P := P) (T.zeros hP (i + 1))
  have G : GrpOn (T P i) (rAt P (f + 1) i) (zeros P.orders.length) :=
    E.group.carry (prV i) (fun p hp => prV_T hP hin hp) (fun y hy => prV_sur hP hin hy) hz0 (fun p q hp hq => prV_mul hP hi p q hp hq)
  have M := G.toMonOn
  have e0 : ∀ x, T P (i + 1) x → prV i (0, x) = x := fun x hx => set_zero_of hx
  have s0 : ∀ x, T P (i + 1) x → ExS (T P (i + 1)) (gt P.orders i).toNat (0, x) := fun x hx => ⟨by show 0 < _; omega, hx⟩
  -- the product restricted
  have res : ∀ x y, T P (i + 1) x → T P (i + 1) y → rAt P (f + 1) i x y = rAt P f (i + 1) x y := fun x y hx hy => by
    have h := prV_mul hP hi (0, x) (0, y) (s0 x hx) (s0 y hy)
    rw [e0 x hx, e0 y hy] at h
    rw [h]
    unfold exm
    simp only [Nat.add_zero, if_neg (by omega : ¬ (gt P.orders i).toNat ≤ 0)]
    exact e0 _ (M'.cl _ _ hx hy)
  have resN : ∀ (x : List Int) (j k : Nat), i + 1 ≤ j → j + k = P.orders.length → npr (rAt P (f + 1) i) (unitV P.orders.length) x j (zeros P.orders.length) k = npr (rAt P f (i + 1)) (unitV P.orders.length) x j (zeros P.orders.length) k ∧
      T P (i + 1) (npr (rAt P f (i + 1)) (unitV P.orders.length) x j (zeros P.orders.length) k) := fun x j k hj hk => by
    have := acc_rel (fun (y z : List Int) => T P (i + 1) z ∧ y = z) (fun y j => rAt P (f + 1) i y (unitV P.orders.length j)) (fun y j => rAt P f (i + 1) y (unitV P.orders.length j)) x j (zeros P.orders.length) (zeros P.orders.length) k ⟨L.grp.one, rfl⟩ (by
      rintro y z l ⟨h1, rfl⟩ a b _
      have hu : T P (i + 1) (unitV P.orders.length l) := T.unit hP (by omega) (by omega)
      exact ⟨M'.cl _ _ h1 hu, res _ _ h1 hu⟩)
    exact ⟨this.2, this.1⟩
  have u1 : unitV P.orders.length i = prV i (1, zeros P.orders.length) := by
    unfold prV unitV zeros; rfl
  have s1 : ∀ a x, a < (gt P.orders i).toNat → T P (i + 1) x → ExS (T P (i + 1)) (gt P.orders i).toNat (a, x) := fun a x ha hx => ⟨ha, hx⟩
  have hz : T P (i + 1) (zeros P.orders.length) := T.zeros hP _
  have hupT : T P i (unitV P.orders.length i) := T.unit hP (Nat.le_refl _) hin
  have hmem : ∀ j, i ≤ j → j < P.orders.length → T P i (unitV P.orders.length j) := fun j a b => T.unit hP a b
  -- powers of the generator
  have hpw : ∀ k, k < (gt P.orders i).toNat → iter k (fun y => rAt P (f + 1) i y (unitV P.orders.length i)) (zeros P.orders.length) = prV i (k, zeros P.orders.length) := by
    intro k
    induction k with
    | zero => intro _; exact hz0.symm
    | succ k ih =>
      intro hk
      show rAt P (f + 1) i (iter k _ _) (unitV P.orders.length i) = _
      rw [ih (by omega), u1, prV_mul hP hi _ _ (s1 k _ (by omega) hz) (s1 1 _ (by omega) hz)]
      unfold exm
      simp only [if_neg (by omega : ¬ (gt P.orders i).toNat ≤ k + 1), E.ione, M'.el _ hz]
  have hw := pw_T (i := i) hP hin
  have nfr : ∀ x, T P (i + 1) x → npr (rAt P (f + 1) i) (unitV P.orders.length) x (i + 1) (zeros P.orders.length) f = x := fun x hx => by
    rw [(resN x (i + 1) f (by omega) (by omega)).1, L.nf x hx]
  refine ⟨G, fun x hx => ?_, ⟨hmem, fun j a b => ?_, fun j k a b c => ?_⟩⟩
  · -- normal form
    rw [npr_front M (fun j a b => hmem j a (by omega))]
    have hxi := hx.1.2 i hin
    have hd := hx.drop hP hin
    have h1 : npr (rAt P (f + 1) i) (unitV P.orders.length) x (i + 1) (zeros P.orders.length) f = x.set i 0 := by
      have h2 : npr (rAt P (f + 1) i) (unitV P.orders.length) x (i + 1) (zeros P.orders.length) f = npr (rAt P (f + 1) i) (unitV P.orders.length) (x.set i 0) (i + 1) (zeros P.orders.length) f :=
        acc_congr _ _ _ _ _ _ (fun j a b => by rw [gt_set_ne _ _ _ _ (by omega)])
      rw [h2, nfr _ hd]
    rw [hpw _ (by omega), h1]
    obtain ⟨p, hp, hpx⟩ := prV_sur hP hin hx
    have h3 := prV_mul hP hi ((gt x i).toNat, zeros P.orders.length) (0, x.set i 0) (s1 _ _ (by omega) hz) (s0 _ hd)
    rw [e0 _ hd] at h3
    rw [h3]
    unfold exm
    simp only [Nat.add_zero, if_neg (by omega : ¬ (gt P.orders i).toNat ≤ (gt x i).toNat)]
    show prV i ((gt x i).toNat, rAt P f (i + 1) (zeros P.orders.length) (x.set i 0)) = x
    rw [M'.el _ hd]
    unfold prV
    simp only [List.set_set]
    refine ext_gt (by simp) (fun k hk => ?_)
    rw [List.length_set] at hk
    rw [gt_set_if _ _ _ _ hk]
    split
    · rename_i h; subst h; omega
    · rfl
  · -- power relations
    by_cases hji : j = i
    · subst hji
      rw [show P.orders.length - (j + 1) = f by omega, nfr _ hw]
      obtain ⟨o', ho'⟩ : ∃ o', (gt P.orders j).toNat = o' + 1 := ⟨(gt P.orders j).toNat - 1, by omega⟩
      rw [ho']
      show rAt P (f + 1) j (iter o' _ _) (unitV P.orders.length j) = _
      rw [hpw o' (by omega), u1, prV_mul hP hi _ _ (s1 o' _ (by omega) hz) (s1 1 _ (by omega) hz)]
      unfold exm
      simp only [if_pos (by omega : (gt P.orders j).toNat ≤ o' + 1), E.ione, M'.el _ hz, M'.er _ hw]
      rw [show o' + 1 - (gt P.orders j).toNat = 0 by omega]
      exact e0 _ hw
    · have hu : T P (i + 1) (unitV P.orders.length j) := T.unit hP (by omega) b
      rw [(resN _ (j + 1) _ (by omega) (by omega)).1, ← L.rel.pw j (by omega) b]
      have := iter_rel (fun (y z : List Int) => T P (i + 1) z ∧ y = z) (fun y => rAt P (f + 1) i y (unitV P.orders.length j)) (fun y => rAt P f (i + 1) y (unitV P.orders.length j)) (by
        rintro y z ⟨h1, rfl⟩
        exact ⟨M'.cl _ _ h1 hu, res _ _ h1 hu⟩) (gt P.orders j).toNat _ _ ⟨L.grp.one, rfl⟩
      exact this.2
  · -- conjugate relations
    by_cases hji : j = i
    · subst hji
      have hc := cj_T (i := j) hP b c
      have hu : T P (j + 1) (unitV P.orders.length k) := T.unit hP (by omega) c
      rw [show P.orders.length - (j + 1) = f by omega, nfr _ hc]
      have h1 := prV_mul hP hi (0, unitV P.orders.length k) (1, zeros P.orders.length) (s0 _ hu) (s1 1 _ (by omega) hz)
      have h2 := prV_mul hP hi (1, zeros P.orders.length) (0, gt (gt P.conj j) (k - j - 1)) (s1 1 _ (by omega) hz) (s0 _ hc)
      rw [e0 _ hu, ← u1] at h1
      rw [e0 _ hc, ← u1] at h2
      rw [h1, h2]
      unfold exm
      simp only [Nat.zero_add, Nat.add_zero, if_neg (by omega : ¬ (gt P.orders j).toNat ≤ 1)]
      show prV j (1, rAt P f (j + 1) (rImage P f j (unitV P.orders.length k)) (zeros P.orders.length)) = prV j (1, rAt P f (j + 1) (zeros P.orders.length) (gt (gt P.conj j) (k - j - 1)))
      rw [hunit k b c, M'.er _ hc, M'.el _ hc]
    · have hu : T P (i + 1) (unitV P.orders.length j) := T.unit hP (by omega) (by omega)
      have hv : T P (i + 1) (unitV P.orders.length k) := T.unit hP (by omega) c
      have hr := resN (gt (gt P.conj j) (k - j - 1)) (j + 1) (P.orders.length - (j + 1)) (by omega) (by omega)
      rw [hr.1, res _ _ hv hu, res _ _ hu hr.2]
      exact L.rel.cj j k (by omega) b c

end

/-- the tails behind which no fault is seen -/
theorem lvl_of_R {P : Pr} (hP : Valid P) (f : Nat) : ∀ i, i + f = P.orders.length → (∀ k, i ≤ k → k < P.orders.length → RLevel P (P.orders.length - 1 - k) k) → Lvl P f i := by
  induction f with
  | zero =>
    intro i hi _
    have : i = P.orders.length := by omega
    subst this
    exact Lvl.top hP
  | succ f ih =>
    intro i hi h
    have L := ih (i + 1) (by omega) (fun k a b => h k (by omega) b)
    have R := h i (by omega) (by omega)
    rw [show P.orders.length - 1 - i = f by omega] at R
    exact L.step hP hi R
theorem lvl_of_I {P : Pr} (hP : Valid P) (f : Nat) : ∀ i, i + f = P.orders.length → (∀ k, i ≤ k → k < P.orders.length → ILevel P k) → Lvl P f i := by
  induction f with
  | zero =>
    intro i hi _
    have : i = P.orders.length := by omega
    subst this
    exact Lvl.top hP
  | succ f ih =>
    intro i hi h
    have L := ih (i + 1) (by omega) (fun k a b => h k (by omega) b)
    exact L.step hP hi ((L.iff hP hi).1 (h i (by omega) (by omega)))

theorem all_iff {P : Pr} (hP : Valid P) : IAll P ↔ RAll P := by
  constructor
  · intro h k hk
    have L := lvl_of_I hP (P.orders.length - 1 - k) (k + 1) (by omega) (fun l _ b => h l b)
    exact (L.iff hP (by omega)).1 (h k hk)
  · intro h k hk
    have L := lvl_of_R hP (P.orders.length - 1 - k) (k + 1) (by omega) (fun l _ b => h l b)
    exact (L.iff hP (by omega)).2 (h k hk)

/-- both sides call the same presentations consistent -/
theorem icons_eq (P : Pr) : iconsB P = rconsB P := by
  unfold iconsB rconsB
  exact decide_eq_decide.2 (and_congr_right (fun hP => all_iff hP))

/-- a valid and consistent presentation -/
structure Grp (P : Pr) : Prop where
  v : Valid P
  all : RAll P

theorem Grp.tail {P : Pr} (G : Grp P) {f i : Nat} (hi : i + f = P.orders.length) : Lvl P f i := lvl_of_R G.v f i hi (fun k _ b => G.all k b)
theorem Grp.lvl {P : Pr} (G : Grp P) : Lvl P P.orders.length 0 := G.tail (by omega)

theorem grp_of_r {P : Pr} (h : rconsB P = true) : Grp P := by
  unfold rconsB at h
  have h2 := @of_decide_eq_true _ (_) h
  exact ⟨h2.1, h2.2⟩

theorem T_zero {P : Pr} {x : List Int} : T P 0 x ↔ Vec P.orders x := ⟨fun h => h.1, fun h => ⟨h, fun k hk => by omega⟩⟩

section
variable {P : Pr} (G : Grp P)
include G

/-- the group of a consistent presentation -/
theorem Grp.grp : GrpOn (Vec P.orders) (rMul P) (zeros P.orders.length) := by
  have h := G.lvl.grp
  have e : T P 0 = Vec P.orders := by funext x; exact propext T_zero
  rw [e] at h
  exact h
theorem Grp.tv_eq {E F : List Int} (hE : Vec P.orders E) (hF : Vec P.orders F) : tv P E F = rMul P E F := G.lvl.tv_eq G.v (by omega) (T_zero.2 hE) (T_zero.2 hF)
theorem Grp.nf {x : List Int} (hx : Vec P.orders x) : npr (rMul P) (unitV P.orders.length) x 0 (zeros P.orders.length) P.orders.length = x := G.lvl.nf x (T_zero.2 hx)
theorem Grp.iInv_mul {a : List Int} (ha : Vec P.orders a) : rMul P a (iInv P a) = zeros P.orders.length := (G.lvl.iInv_eq G.v (by omega) (T_zero.2 ha)).2
theorem Grp.rel : Holds P (Vec P.orders) (rMul P) (zeros P.orders.length) (unitV P.orders.length) 0 := by
  have h := G.lvl.rel
  have e : T P 0 = Vec P.orders := by funext x; exact propext T_zero
  rw [e] at h
  exact h
theorem Grp.iPow_eq {a : List Int} (ha : Vec P.orders a) (k : Int) : iPow P a k = iter k.toNat (fun y => rMul P y a) (zeros P.orders.length) := G.lvl.iPow_eq G.v (by omega) (T_zero.2 ha) k
end

end Go.Proofs.Ytbfbpjkpoepmkaa

/- Plain: the two sides' inverses and conjugates in a consistent presentation. -/
namespace Go.Proofs.Ytbfbpjkpoepmkaa

section
variable {P : Pr} {f i : Nat}

theorem rImage_zeros : rImage P f i (zeros P.orders.length) = zeros P.orders.length := by
  unfold rImage
  rw [rImgTo_acc]
  exact acc_zero _ _ _ _ _ (fun j _ _ => gt_replicate _ _)

theorem rAt_res (hP : Valid P) (hi : i + (f + 1) = P.orders.length) {x y : List Int} (hx : T P (i + 1) x) (hy : T P (i + 1) y) : rAt P (f + 1) i x y = rAt P f (i + 1) x y := by
  have ho := hP.ord7 i (by omega)
  have h := prV_mul hP hi (0, x) (0, y) ⟨by show 0 < _; omega, hx⟩ ⟨by show 0 < _; omega, hy⟩
  have e0 : ∀ x, T P (i + 1) x → prV i (0, x) = x := fun x hx => set_zero_of hx
  rw [e0 x hx, e0 y hy] at h
  rw [h]
  unfold exm
  simp only [Nat.add_zero, if_neg (by omega : ¬ (gt P.orders i).toNat ≤ 0)]
  exact e0 _ (rAt_T hP f (i + 1) x y (by omega) hx.1 hy.1)

/-- powers of a generator -/
theorem gen_pow (hP : Valid P) (hi : i + (f + 1) = P.orders.length) (L' : Lvl P f (i + 1)) (k : Nat) (hk : k < (gt P.orders i).toNat) :
    iter k (fun y => rAt P (f + 1) i y (unitV P.orders.length i)) (zeros P.orders.length) = prV i (k, zeros P.orders.length) := by
  have hz : T P (i + 1) (zeros P.orders.length) := T.zeros hP _
  induction k with
  | zero => exact (set_zero_of hz).symm
  | succ k ih =>
    show rAt P (f + 1) i (iter k _ _) (unitV P.orders.length i) = _
    have u1 : unitV P.orders.length i = prV i (1, zeros P.orders.length) := by unfold prV unitV zeros; rfl
    rw [ih (by omega), u1, prV_mul hP hi _ _ ⟨by show k < _; omega, hz⟩ ⟨by show 1 < _; omega, hz⟩]
    unfold exm
    simp only [if_neg (by omega : ¬ (gt P.orders i).toNat ≤ k + 1)]
    show prV i (k + 1, rAt P f (i + 1) (rImage P f i (zeros P.orders.length)) (zeros P.orders.length)) = _
    rw [rImage_zeros, L'.grp.el _ hz]

/-- a vector is the generator's power times what stands behind it -/
theorem vec_head (hP : Valid P) (hi : i + (f + 1) = P.orders.length) (L' : Lvl P f (i + 1)) {x : List Int} (hx : T P i x) :
    rAt P (f + 1) i (prV i ((gt x i).toNat, zeros P.orders.length)) (x.set i 0) = x := by
  have hin : i < P.orders.length := by omega
  have hxi := hx.1.2 i hin
  have hd := hx.drop hP hin
  have hz : T P (i + 1) (zeros P.orders.length) := T.zeros hP _
  have h3 := prV_mul hP hi ((gt x i).toNat, zeros P.orders.length) (0, x.set i 0) ⟨by show (gt x i).toNat < _; omega, hz⟩ ⟨by show 0 < _; omega, hd⟩
  have e0 : prV i (0, x.set i 0) = x.set i 0 := set_zero_of hd
  rw [e0] at h3
  rw [h3]
  unfold exm
  simp only [Nat.add_zero, if_neg (by omega : ¬ (gt P.orders i).toNat ≤ (gt x i).toNat)]
  show prV i ((gt x i).toNat, rAt P f (i + 1) (zeros P.orders.length) (x.set i 0)) = x
  rw [L'.grp.el _ hd]
  unfold prV
  simp only [List.set_set]
  refine ext_gt (by simp) (fun k hk => ?_)
  rw [List.length_set] at hk
  rw [gt_set_if _ _ _ _ hk]
  split
  · rename_i h; subst h; omega
  · rfl

theorem rFrom_inv (G : Grp P) (f : Nat) : ∀ (i : Nat) (x : List Int), i + f = P.orders.length → T P i x → T P i (rFrom P f i x) ∧ rAt P f i x (rFrom P f i x) = zeros P.orders.length := by
  have hP := G.v
  induction f with
  | zero => intro i x _ _; exact ⟨T.zeros hP i, rfl⟩
  | succ f ih =>
    intro i x hi hx
    have hin : i < P.orders.length := by omega
    have L := G.tail hi
    have L' := G.tail (f := f) (i := i + 1) (by omega)
    have ho := hP.ord7 i hin
    have hxi := hx.1.2 i hin
    have hd := hx.drop hP hin
    obtain ⟨h1, h2⟩ := ih (i + 1) _ (by omega) hd
    have h1i : T P i (rFrom P f (i + 1) (x.set i 0)) := h1.down (by omega)
    simp only [rFrom]
    by_cases h0 : gt x i = 0
    · rw [if_pos h0]
      have ex : x.set i 0 = x := set_zero_of (hx.up h0)
      rw [ex] at h1i h2 ⊢
      rw [ex] at h1
      exact ⟨h1i, by rw [rAt_res hP hi (hx.up h0) h1]; exact h2⟩
    · rw [if_neg h0]
      have hw := pw_T (i := i) hP hin
      obtain ⟨h3, h4⟩ := ih (i + 1) _ (by omega) hw
      have hg : T P i (prV i ((gt P.orders i - gt x i).toNat, zeros P.orders.length)) := prV_T hP hin ⟨by show (gt P.orders i - gt x i).toNat < _; omega, T.zeros hP _⟩
      have hg2 : T P i (prV i ((gt x i).toNat, zeros P.orders.length)) := prV_T hP hin ⟨by show (gt x i).toNat < _; omega, T.zeros hP _⟩
      have eg : (zeros P.orders.length).set i (gt P.orders i - gt x i) = prV i ((gt P.orders i - gt x i).toNat, zeros P.orders.length) := by
        unfold prV
        simp only
        rw [show (((gt P.orders i - gt x i).toNat : Nat) : Int) = gt P.orders i - gt x i by omega]
      rw [eg]
      have M := L.grp.toMonOn
      have h3i : T P i (rFrom P f (i + 1) (gt P.powers i)) := h3.down (by omega)
      have hdi : T P i (x.set i 0) := hd.down (by omega)
      have hwi : T P i (gt P.powers i) := hw.down (by omega)
      refine ⟨M.cl _ _ (M.cl _ _ h1i hg) h3i, ?_⟩
      have hu := T.unit hP (Nat.le_refl i) hin
      have e1 : rAt P (f + 1) i (x.set i 0) (rFrom P f (i + 1) (x.set i 0)) = zeros P.orders.length := by rw [rAt_res hP hi hd h1]; exact h2
      have e2 : rAt P (f + 1) i (gt P.powers i) (rFrom P f (i + 1) (gt P.powers i)) = zeros P.orders.length := by rw [rAt_res hP hi hw h3]; exact h4
      have e3 : rAt P (f + 1) i (prV i ((gt x i).toNat, zeros P.orders.length)) (prV i ((gt P.orders i - gt x i).toNat, zeros P.orders.length)) = gt P.powers i := by
        rw [← gen_pow hP hi L' _ (by omega), ← gen_pow hP hi L' _ (by omega), ← M.pow_add hu, show (gt x i).toNat + (gt P.orders i - gt x i).toNat = (gt P.orders i).toNat by omega, L.rel.pw i (Nat.le_refl _) hin]
        rw [show P.orders.length - (i + 1) = f by omega]
        have := L'.nf _ hw
        have hr := (acc_rel (fun (y z : List Int) => T P (i + 1) z ∧ y = z) (fun y j => rAt P (f + 1) i y (unitV P.orders.length j)) (fun y j => rAt P f (i + 1) y (unitV P.orders.length j)) (gt P.powers i) (i + 1) (zeros P.orders.length) (zeros P.orders.length) f ⟨L'.grp.one, rfl⟩ (by
          rintro y z l ⟨g1, rfl⟩ a b _
          have hul : T P (i + 1) (unitV P.orders.length l) := T.unit hP (by omega) (by omega)
          exact ⟨L'.grp.cl _ _ g1 hul, rAt_res hP hi g1 hul⟩)).2
        exact hr.trans this
      have hx2 := vec_head hP hi L' hx
      have assoc : rAt P (f + 1) i x (rAt P (f + 1) i (rAt P (f + 1) i (rFrom P f (i + 1) (x.set i 0)) (prV i ((gt P.orders i - gt x i).toNat, zeros P.orders.length))) (rFrom P f (i + 1) (gt P.powers i))) = zeros P.orders.length := by
        have hc := M.cl _ _ h1i hg
        rw [← M.ass _ _ _ hx hc h3i, ← M.ass _ _ _ hx h1i hg]
        have e4 : rAt P (f + 1) i x (rFrom P f (i + 1) (x.set i 0)) = prV i ((gt x i).toNat, zeros P.orders.length) := by
          have e5 : rAt P (f + 1) i x (rFrom P f (i + 1) (x.set i 0)) = rAt P (f + 1) i (rAt P (f + 1) i (prV i ((gt x i).toNat, zeros P.orders.length)) (x.set i 0)) (rFrom P f (i + 1) (x.set i 0)) := by rw [hx2]
          rw [e5, M.ass _ _ _ hg2 hdi h1i, e1, M.er _ hg2]
        rw [e4, e3, e2]
      exact assoc
end

section
variable {P : Pr} (G : Grp P)
include G

theorem Grp.mul_inv {x : List Int} (hx : Vec P.orders x) : rMul P x (rInv P x) = zeros P.orders.length := (rFrom_inv G P.orders.length 0 x (by omega) (T_zero.2 hx)).2
theorem Grp.inv_mul {x : List Int} (hx : Vec P.orders x) : rMul P (rInv P x) x = zeros P.orders.length := G.grp.right_left hx (rInv_vec G.v x hx) (G.mul_inv hx)
theorem Grp.mulV {x y : List Int} (hx : Vec P.orders x) (hy : Vec P.orders y) : Vec P.orders (rMul P x y) := G.grp.cl _ _ hx hy
theorem Grp.invV {x : List Int} (hx : Vec P.orders x) : Vec P.orders (rInv P x) := rInv_vec G.v x hx
theorem Grp.ass {x y z : List Int} (hx : Vec P.orders x) (hy : Vec P.orders y) (hz : Vec P.orders z) : rMul P (rMul P x y) z = rMul P x (rMul P y z) := G.grp.ass x y z hx hy hz
theorem Grp.oneV : Vec P.orders (zeros P.orders.length) := zeros_vec G.v
theorem Grp.conjV {x y : List Int} (hx : Vec P.orders x) (hy : Vec P.orders y) : Vec P.orders (rConj P x y) := G.mulV (G.invV hy) (G.mulV hx hy)
theorem Grp.iInv_eq {x : List Int} (hx : Vec P.orders x) : iInv P x = rInv P x :=
  G.grp.cancel hx (iInv_vec G.v x hx) (G.invV hx) (by rw [G.iInv_mul hx, G.mul_inv hx])
theorem Grp.iConj_eq {x y : List Int} (hx : Vec P.orders x) (hy : Vec P.orders y) : iConj P x y = rConj P x y := by
  unfold iConj rConj
  rw [G.iInv_eq hy, G.tv_eq hx hy, G.tv_eq (G.invV hy) (G.mulV hx hy)]
theorem Grp.conj_one {x : List Int} (hx : Vec P.orders x) : rConj P x (zeros P.orders.length) = x := by
  unfold rConj
  have h1 : rInv P (zeros P.orders.length) = zeros P.orders.length := by
    have := G.mul_inv G.oneV
    rw [G.grp.el _ (G.invV G.oneV)] at this
    exact this
  rw [h1, G.grp.er _ hx, G.grp.el _ hx]
theorem Grp.inv_of {x y : List Int} (hx : Vec P.orders x) (hy : Vec P.orders y) (h : rMul P x y = zeros P.orders.length) : y = rInv P x :=
  G.grp.cancel hx hy (G.invV hx) (by rw [h, G.mul_inv hx])
theorem Grp.inv_mulR {x y : List Int} (hx : Vec P.orders x) (hy : Vec P.orders y) : rInv P (rMul P x y) = rMul P (rInv P y) (rInv P x) := by
  symm
  refine G.inv_of (G.mulV hx hy) (G.mulV (G.invV hy) (G.invV hx)) ?_
  rw [G.ass hx hy (G.mulV (G.invV hy) (G.invV hx)), ← G.ass hy (G.invV hy) (G.invV hx), G.mul_inv hy, G.grp.el _ (G.invV hx), G.mul_inv hx]
theorem Grp.inv_inv {x : List Int} (hx : Vec P.orders x) : rInv P (rInv P x) = x := (G.inv_of (G.invV hx) hx (G.inv_mul hx)).symm
theorem Grp.conj_mul {x y z : List Int} (hx : Vec P.orders x) (hy : Vec P.orders y) (hz : Vec P.orders z) : rConj P (rConj P x y) z = rConj P x (rMul P y z) := by
  unfold rConj
  have c1 := G.mulV hx hy
  rw [G.inv_mulR hy hz, G.ass (G.invV hz) (G.invV hy) (G.mulV hx (G.mulV hy hz)), G.ass (G.invV hy) c1 hz, G.ass hx hy hz]
theorem Grp.conj_back {x y : List Int} (hx : Vec P.orders x) (hy : Vec P.orders y) : rConj P (rConj P x y) (rInv P y) = x := by
  rw [G.conj_mul hx hy (G.invV hy), G.mul_inv hy, G.conj_one hx]
/-- a set that generators keep is kept by all -/
theorem Grp.gen_ind (Q : List Int → Prop) (h1 : Q (zeros P.orders.length)) (hm : ∀ y j, Vec P.orders y → Q y → j < P.orders.length → Q (rMul P y (unitV P.orders.length j))) {x : List Int} (hx : Vec P.orders x) : Q x := by
  have := acc_inv (fun y => Vec P.orders y ∧ Q y) (fun y j => rMul P y (unitV P.orders.length j)) x 0 (zeros P.orders.length) P.orders.length ⟨G.oneV, h1⟩ (fun y j hy _ b _ => ⟨G.mulV hy.1 (unitV_vec G.v j), hm y j hy.1 hy.2 (by omega)⟩)
  have h2 := G.nf hx
  unfold npr at h2
  rw [h2] at this
  exact this.2

end

end Go.Proofs.Ytbfbpjkpoepmkaa

/- Plain: the numbers of elements: num and elAt undo one another. -/
namespace Go.Proofs.Ytbfbpjkpoepmkaa

theorem elTo_len (o : List Int) (N : Nat) (m : Int) (k : Nat) : (elTo o N m k).1.length = N := by
  induction k with
  | zero => simp [elTo]
  | succ k ih => simp only [elTo]; rw [List.length_set, ih]

theorem elTo_keep (o : List Int) (N : Nat) (m : Int) (j k : Nat) (hk : j < k) (hkN : k ≤ N) : gt (elTo o N m k).1 (N - 1 - j) = (elTo o N m j).2 % gt o (N - 1 - j) := by
  induction k with
  | zero => omega
  | succ k ih =>
    simp only [elTo]
    by_cases e : j = k
    · subst e; rw [gt_set_eq _ _ _ (by rw [elTo_len]; omega)]
    · rw [gt_set_ne _ _ _ _ (by omega)]; exact ih (by omega) (by omega)

theorem elTo_lt {P : Pr} (hP : Valid P) (m : Int) (h1 : m < ordP P) (k : Nat) (hk : k ≤ P.orders.length) : (elTo P.orders P.orders.length m k).2 < prodTo P.orders (P.orders.length - k) := by
  induction k with
  | zero => exact h1
  | succ k ih =>
    have h2 := ih (by omega)
    have ho := hP.ord7 (P.orders.length - 1 - k) (by omega)
    simp only [elTo]
    have e : P.orders.length - k = (P.orders.length - (k + 1)) + 1 := by omega
    rw [e] at h2
    simp only [prodTo] at h2
    rw [show P.orders.length - (k + 1) = P.orders.length - 1 - k by omega] at h2 ⊢
    exact Int.ediv_lt_of_lt_mul (by omega) h2

theorem num_elAt {P : Pr} (hP : Valid P) (m : Int) (h0 : 0 ≤ m) (h1 : m < ordP P) : num P (elAt P m) = m := by
  have hz : (elTo P.orders P.orders.length m P.orders.length).2 = 0 := by
    have h2 := elTo_lt hP m h1 P.orders.length (Nat.le_refl _)
    have h3 := (elTo_inv hP m h0 P.orders.length (Nat.le_refl _)).2.1
    rw [Nat.sub_self] at h2
    simp only [prodTo] at h2
    omega
  have key : ∀ k, k ≤ P.orders.length → numTo P.orders (elAt P m) k = (elTo P.orders P.orders.length m (P.orders.length - k)).2 := by
    intro k
    induction k with
    | zero => intro _; simp only [numTo, Nat.sub_zero]; exact hz.symm
    | succ k ih =>
      intro hk
      simp only [numTo]
      rw [ih (by omega)]
      have e : P.orders.length - k = (P.orders.length - (k + 1)) + 1 := by omega
      have hg : gt (elAt P m) k = (elTo P.orders P.orders.length m (P.orders.length - (k + 1))).2 % gt P.orders k := by
        have := elTo_keep P.orders P.orders.length m (P.orders.length - (k + 1)) P.orders.length (by omega) (Nat.le_refl _)
        rw [show P.orders.length - 1 - (P.orders.length - (k + 1)) = k by omega] at this
        exact this
      rw [hg, e]
      simp only [elTo]
      rw [show P.orders.length - 1 - (P.orders.length - (k + 1)) = k by omega]
      have := Int.emod_add_mul_ediv (elTo P.orders P.orders.length m (P.orders.length - (k + 1))).2 (gt P.orders k)
      rw [Int.mul_comm] at this
      omega
  have h4 := key P.orders.length (Nat.le_refl _)
  rw [Nat.sub_self] at h4
  exact h4

theorem num_inj {P : Pr} (hP : Valid P) {x y : List Int} (hx : Vec P.orders x) (hy : Vec P.orders y) (h : num P x = num P y) : x = y := by
  have key : ∀ k, k ≤ P.orders.length → numTo P.orders x (P.orders.length - k) = numTo P.orders y (P.orders.length - k) ∧ ∀ j, P.orders.length - k ≤ j → j < P.orders.length → gt x j = gt y j := by
    intro k
    induction k with
    | zero => intro _; exact ⟨h, fun j a b => by omega⟩
    | succ k ih =>
      intro hk
      obtain ⟨h1, h2⟩ := ih (by omega)
      have e : P.orders.length - k = (P.orders.length - (k + 1)) + 1 := by omega
      rw [e] at h1
      simp only [numTo] at h1
      have ho := hP.ord7 (P.orders.length - (k + 1)) (by omega)
      have hxk := hx.2 (P.orders.length - (k + 1)) (by omega)
      have hyk := hy.2 (P.orders.length - (k + 1)) (by omega)
      have e1 : gt x (P.orders.length - (k + 1)) = gt y (P.orders.length - (k + 1)) := by
        have h3 : (numTo P.orders x (P.orders.length - (k + 1)) * gt P.orders (P.orders.length - (k + 1)) + gt x (P.orders.length - (k + 1))) % gt P.orders (P.orders.length - (k + 1)) = (numTo P.orders y (P.orders.length - (k + 1)) * gt P.orders (P.orders.length - (k + 1)) + gt y (P.orders.length - (k + 1))) % gt P.orders (P.orders.length - (k + 1)) := by rw [h1]
        rw [Int.add_comm, Int.add_mul_emod_self_right, Int.add_comm _ (gt y _), Int.add_mul_emod_self_right, Int.emod_eq_of_lt hxk.1 hxk.2, Int.emod_eq_of_lt hyk.1 hyk.2] at h3
        exact h3
      refine ⟨?_, fun j a b => ?_⟩
      · have h4 : numTo P.orders x (P.orders.length - (k + 1)) * gt P.orders (P.orders.length - (k + 1)) = numTo P.orders y (P.orders.length - (k + 1)) * gt P.orders (P.orders.length - (k + 1)) := by omega
        exact Int.eq_of_mul_eq_mul_right (by omega) h4
      · by_cases ej : j = P.orders.length - (k + 1)
        · rw [ej]; exact e1
        · exact h2 j (by omega) b
  have h5 := (key P.orders.length (Nat.le_refl _)).2
  exact ext_gt (by rw [hx.1, hy.1]) (fun k hk => h5 k (by omega) (by rw [← hx.1]; exact hk))

theorem elAt_num {P : Pr} (hP : Valid P) {x : List Int} (hx : Vec P.orders x) : elAt P (num P x) = x := by
  have hb := num_bd hP hx
  exact num_inj hP (elAt_vec hP _ hb.1) hx (num_elAt hP _ hb.1 hb.2)

end Go.Proofs.Ytbfbpjkpoepmkaa

/- Plain: in a consistent presentation the program's classes are the reference's: what the program collects of a member is its conjugacy class, and both count the same sizes. -/
namespace Go.Proofs.Ytbfbpjkpoepmkaa

section
variable {P : Pr} (G : Grp P)
include G

/-- y is a conjugate of x -/
def Cj (P : Pr) (x y : List Int) : Prop := ∃ g, Vec P.orders g ∧ y = rConj P x g

omit G in
theorem mem_addZ (hP : Valid P) {L : List (List Int)} (hL : OrbI P L) {z : List Int} (hz : Vec P.orders z) (y : List Int) : y ∈ addZ P L z ↔ y ∈ L ∨ y = z := by
  unfold addZ
  split
  · rename_i h
    obtain ⟨u, hu, hn⟩ := List.mem_map.1 h
    have : u = z := num_inj hP (hL.vec u hu) hz hn
    subst this
    constructor
    · exact fun h => .inl h
    · rintro (h | h)
      · exact h
      · rw [h]; exact hu
  · simp

theorem Grp.orbIn_mem {L : List (List Int)} (hL : OrbI P L) {y : List Int} (hy : Vec P.orders y) (g : Nat) : ∀ z, z ∈ orbIn P y L g ↔ z ∈ L ∨ ∃ j, j < g ∧ z = rConj P y (unitV P.orders.length j) := by
  induction g with
  | zero =>
    intro z
    simp only [orbIn]
    exact ⟨fun h => .inl h, fun h => h.elim id (fun ⟨j, hj, _⟩ => by omega)⟩
  | succ g ih =>
    intro z
    simp only [orbIn]
    rw [mem_addZ G.v (hL.inn G.v hy g) (iConj_vec G.v y _ hy (unitV_vec G.v g)), ih z, G.iConj_eq hy (unitV_vec G.v g)]
    constructor
    · rintro ((h | ⟨j, hj, h⟩) | h)
      · exact .inl h
      · exact .inr ⟨j, by omega, h⟩
      · exact .inr ⟨g, by omega, h⟩
    · rintro (h | ⟨j, hj, h⟩)
      · exact .inl (.inl h)
      · by_cases e : j = g
        · subst e; exact .inr h
        · exact .inl (.inr ⟨j, by omega, h⟩)

omit G in
theorem gt_append_pre {α : Type} [Inhabited α] {L M : List α} {j : Nat} (h : j < L.length) : gt (L ++ M) j = gt L j := gt_append_left L M j h

/-- the breadth-first walk closes the orbit -/
theorem Grp.orbTo_spec {x : List Int} (hx : Vec P.orders x) (f : Nat) : ∀ (i : Nat) (L : List (List Int)), f + i = (ordP P).toNat + 1 → i ≤ L.length → OrbI P L → x ∈ L → (∀ y ∈ L, Cj P x y) →
    (∀ j, j < i → ∀ g, g < P.orders.length → rConj P (gt L j) (unitV P.orders.length g) ∈ L) →
    OrbI P (orbTo P f i L) ∧ x ∈ orbTo P f i L ∧ (∀ y ∈ orbTo P f i L, Cj P x y) ∧ ∀ y ∈ orbTo P f i L, ∀ g, g < P.orders.length → rConj P y (unitV P.orders.length g) ∈ orbTo P f i L := by
  induction f with
  | zero =>
    intro i L hf hi hL _ _ _
    have := hL.len G.v
    omega
  | succ f ih =>
    intro i L hf hi hL hxL hcj hcl
    simp only [orbTo]
    by_cases hlt : i < L.length
    · rw [if_pos hlt]
      have hy := hL.vec _ (gt_mem hlt)
      have hmem := G.orbIn_mem hL hy P.orders.length
      obtain ⟨M, hM⟩ := orbIn_pre P (gt L i) L P.orders.length
      have hlen : L.length ≤ (orbIn P (gt L i) L P.orders.length).length := by rw [hM, List.length_append]; omega
      refine ih (i + 1) _ (by omega) (by omega) (hL.inn G.v hy _) ((hmem x).2 (.inl hxL)) ?_ ?_
      · intro y hyy
        rcases (hmem y).1 hyy with h | ⟨j, hj, h⟩
        · exact hcj y h
        · obtain ⟨g, hg, h2⟩ := hcj _ (gt_mem hlt)
          refine ⟨rMul P g (unitV P.orders.length j), G.mulV hg (unitV_vec G.v j), ?_⟩
          rw [h, h2, G.conj_mul hx hg (unitV_vec G.v j)]
      · intro j hj g hg
        have e : gt (orbIn P (gt L i) L P.orders.length) j = gt L j := by rw [hM]; exact gt_append_left _ _ _ (by omega)
        rw [e]
        by_cases ej : j = i
        · rw [ej]; exact (hmem _).2 (.inr ⟨g, hg, rfl⟩)
        · exact (hmem _).2 (.inl (hcl j (by omega) g hg))
    · rw [if_neg hlt]
      have : i = L.length := by omega
      refine ⟨hL, hxL, hcj, fun y hy g hg => ?_⟩
      obtain ⟨j, hj, rfl⟩ := mem_gt hy
      exact hcl j (by omega) g hg

/-- what the program collects of x is the conjugacy class of x -/
theorem Grp.orb_spec {x : List Int} (hx : Vec P.orders x) : OrbI P (orb P x) ∧ ∀ y, y ∈ orb P x ↔ Cj P x y := by
  obtain ⟨h1, h2, h3, h4⟩ := G.orbTo_spec hx ((ordP P).toNat + 1) 0 [x] rfl (by simp) (OrbI.single hx) (by simp) (fun y hy => by
    rw [List.mem_singleton.1 hy]; exact ⟨_, G.oneV, (G.conj_one hx).symm⟩) (fun j hj => by omega)
  refine ⟨h1, fun y => ⟨h3 y, ?_⟩⟩
  rintro ⟨g, hg, rfl⟩
  have key := G.gen_ind (fun g => ∀ y ∈ orb P x, rConj P y g ∈ orb P x) (fun y hy => by rw [G.conj_one (h1.vec y hy)]; exact hy) (fun u j hu ih hj y hy => by
    rw [← G.conj_mul (h1.vec y hy) hu (unitV_vec G.v j)]
    exact h4 _ (ih y hy) j hj) hg
  exact key x h2

theorem Grp.Cj_refl {x : List Int} (hx : Vec P.orders x) : Cj P x x := ⟨_, G.oneV, (G.conj_one hx).symm⟩
theorem Grp.Cj_symm {x y : List Int} (hx : Vec P.orders x) (h : Cj P x y) : Cj P y x := by
  obtain ⟨g, hg, rfl⟩ := h
  exact ⟨rInv P g, G.invV hg, (G.conj_back hx hg).symm⟩
theorem Grp.Cj_trans {x y z : List Int} (hx : Vec P.orders x) (h : Cj P x y) (k : Cj P y z) : Cj P x z := by
  obtain ⟨g, hg, rfl⟩ := h
  obtain ⟨u, hu, rfl⟩ := k
  exact ⟨_, G.mulV hg hu, G.conj_mul hx hg hu⟩
theorem Grp.Cj_vec {x y : List Int} (hx : Vec P.orders x) (h : Cj P x y) : Vec P.orders y := by
  obtain ⟨g, hg, rfl⟩ := h
  exact G.conjV hx hg

/-- the marks of the reference -/
theorem Grp.marks_spec {x : List Int} (hx : Vec P.orders x) (k : Nat) (hk : k ≤ (ordP P).toNat) : ∀ t, t < (ordP P).toNat → (gt (marksTo P x k) t = true ↔ ∃ j, j < k ∧ rConj P x (elAt P (j : Int)) = elAt P (t : Int)) := by
  induction k with
  | zero =>
    intro t ht
    simp only [marksTo]
    have : gt (List.replicate (ordP P).toNat false) t = false := by simp [gt, ht]
    rw [this]
    constructor
    · intro h; cases h
    · rintro ⟨j, hj, _⟩; omega
  | succ k ih =>
    intro t ht
    simp only [marksTo]
    rw [gt_set _ _ _ _ (by rw [marksTo_len]; exact ht)]
    have hv := G.conjV hx (elAt_vec G.v (k : Int) (by omega))
    have hb := num_bd G.v hv
    by_cases e : (num P (rConj P x (elAt P (k : Int)))).toNat = t
    · rw [if_pos e]
      constructor
      · intro _
        refine ⟨k, by omega, ?_⟩
        rw [← e, show (((num P (rConj P x (elAt P (k : Int)))).toNat : Nat) : Int) = num P (rConj P x (elAt P (k : Int))) by omega, elAt_num G.v hv]
      · intro _; rfl
    · rw [if_neg e, ih (by omega) t ht]
      constructor
      · rintro ⟨j, hj, h⟩; exact ⟨j, by omega, h⟩
      · rintro ⟨j, hj, h⟩
        by_cases ej : j = k
        · subst ej
          exfalso; apply e
          rw [h, num_elAt G.v _ (by omega) (by omega)]
          omega
        · exact ⟨j, by omega, h⟩

theorem Grp.marks_cj {x : List Int} (hx : Vec P.orders x) (t : Nat) (ht : t < (ordP P).toNat) : gt (marksTo P x (ordP P).toNat) t = true ↔ Cj P x (elAt P (t : Int)) := by
  rw [G.marks_spec hx _ (Nat.le_refl _) t ht]
  constructor
  · rintro ⟨j, hj, h⟩; exact ⟨_, elAt_vec G.v (j : Int) (by omega), h.symm⟩
  · rintro ⟨g, hg, h⟩
    have hb := num_bd G.v hg
    refine ⟨(num P g).toNat, by omega, ?_⟩
    rw [show (((num P g).toNat : Nat) : Int) = num P g by omega, elAt_num G.v hg, h]

omit G in
theorem paint_gt (m : List Bool) (c : Int) (L : List Int) (j : Nat) : ∀ t, t < L.length → gt (paint m c L j) t = if t < j ∧ gt m t = true then c else gt L t := by
  induction j with
  | zero => intro t ht; rw [if_neg (by omega)]; rfl
  | succ j ih =>
    intro t ht
    simp only [paint]
    by_cases hm : gt m j = true
    · rw [if_pos hm, gt_set _ _ _ _ (by rw [paint_len]; exact ht)]
      by_cases e : j = t
      · subst e; rw [if_pos rfl, if_pos ⟨by omega, hm⟩]
      · rw [if_neg e, ih t ht]
        by_cases h2 : t < j ∧ gt m t = true
        · rw [if_pos h2, if_pos ⟨by omega, h2.2⟩]
        · rw [if_neg h2, if_neg (fun h => h2 ⟨by omega, h.2⟩)]
    · rw [if_neg hm, ih t ht]
      by_cases h2 : t < j ∧ gt m t = true
      · rw [if_pos h2, if_pos ⟨by omega, h2.2⟩]
      · rw [if_neg h2, if_neg (fun h => h2 ⟨by
          rcases Nat.lt_succ_iff_lt_or_eq.1 h.1 with h3 | h3
          · exact h3
          · subst h3; exact absurd h.2 hm, h.2⟩)]

omit G in
theorem fill_gt (N j : Nat) (hj : j ≤ N) : ∀ t, t < j → gt (fillTo N j) t = -1 := by
  induction j with
  | zero => intro t ht; omega
  | succ j ih =>
    intro t ht
    simp only [fillTo]
    rw [gt_set _ _ _ _ (by rw [fillTo_len]; omega)]
    split
    · rfl
    · exact ih (by omega) t (by omega)

/-- one class of the program -/
structure ClsOk (P : Pr) (C : List (List Int)) : Prop where
  nd : C.Nodup
  so : SortedL C
  vec : ∀ y ∈ C, Vec P.orders y
  cj : ∀ y ∈ C, ∀ z, z ∈ C ↔ Cj P y z

/-- both sides' classes after k elements -/
structure ClsInv (P : Pr) (k : Nat) : Prop where
  num : (clsTo P k).2 = (iClsTo P k).length
  ok : ∀ C ∈ iClsTo P k, ClsOk P C
  done : ∀ t, t < k → 0 ≤ gt (clsTo P k).1 t
  at_ : ∀ t, t < (ordP P).toNat → (gt (clsTo P k).1 t = -1 ∧ ∀ C ∈ iClsTo P k, elAt P (t : Int) ∉ C) ∨
    ∃ j : Nat, gt (clsTo P k).1 t = j ∧ j < (iClsTo P k).length ∧ elAt P (t : Int) ∈ gt (iClsTo P k) j ∧ ∀ j', j' < (iClsTo P k).length → elAt P (t : Int) ∈ gt (iClsTo P k) j' → j' = j

theorem Grp.sortL_ok {x : List Int} (hx : Vec P.orders x) : ClsOk P (sortL (orb P x)) ∧ ∀ y, y ∈ sortL (orb P x) ↔ Cj P x y := by
  obtain ⟨h1, h2⟩ := G.orb_spec hx
  have hp := sortL_perm (orb P x)
  have hm : ∀ y, y ∈ sortL (orb P x) ↔ Cj P x y := fun y => hp.mem_iff.trans (h2 y)
  have hnd : (orb P x).Nodup := by
    have h3 := h1.nd
    unfold List.Nodup at h3 ⊢
    rw [List.pairwise_map] at h3
    exact h3.imp (fun h e => h (by rw [e]))
  refine ⟨⟨(hp.nodup_iff).2 hnd, sortL_sorted _, fun y hy => G.Cj_vec hx ((hm y).1 hy), fun y hy z => ?_⟩, hm⟩
  rw [hm z]
  have hxy := (hm y).1 hy
  constructor
  · intro h; exact G.Cj_trans (G.Cj_vec hx hxy) (G.Cj_symm hx hxy) h
  · intro h; exact G.Cj_trans hx hxy h

theorem Grp.cls_inv (k : Nat) (hk : k ≤ (ordP P).toNat) : ClsInv P k := by
  induction k with
  | zero =>
    refine ⟨rfl, fun C h => (by cases h), fun t ht => by omega, fun t ht => .inl ⟨?_, fun C h => (by cases h)⟩⟩
    simp only [clsTo]
    exact fill_gt _ _ (Nat.le_refl _) t ht
  | succ k ih =>
    have I := ih (by omega)
    have hany : ((iClsTo P k).any (fun C => bsFound C (elAt P (k : Int))) = true) ↔ ∃ C ∈ iClsTo P k, elAt P (k : Int) ∈ C := by
      rw [List.any_eq_true]
      constructor
      · rintro ⟨C, hC, h⟩
        rw [bsFound_mem _ _ (I.ok C hC).so] at h
        exact ⟨C, hC, of_decide_eq_true h⟩
      · rintro ⟨C, hC, h⟩
        refine ⟨C, hC, ?_⟩
        rw [bsFound_mem _ _ (I.ok C hC).so]
        exact decide_eq_true h
    have hkN : k < (ordP P).toNat := by omega
    by_cases h0 : 0 ≤ gt (clsTo P k).1 k
    · -- already painted
      have hin : (iClsTo P k).any (fun C => bsFound C (elAt P (k : Int))) = true := by
        rw [hany]
        rcases I.at_ k hkN with ⟨h1, _⟩ | ⟨j, h1, h2, h3, _⟩
        · omega
        · exact ⟨_, gt_mem h2, h3⟩
      have e1 : clsTo P (k + 1) = clsTo P k := by rw [clsTo, if_pos h0]
      have e2 : iClsTo P (k + 1) = iClsTo P k := by rw [iClsTo, if_pos hin]
      refine ⟨by rw [e1, e2]; exact I.num, by rw [e2]; exact I.ok, fun t ht => ?_, by rw [e1, e2]; exact I.at_⟩
      rw [e1]
      rcases Nat.lt_succ_iff_lt_or_eq.1 ht with h | h
      · exact I.done t h
      · rw [h]; exact h0
    · have hnot : ∀ C ∈ iClsTo P k, elAt P (k : Int) ∉ C := by
        rcases I.at_ k hkN with ⟨_, h2⟩ | ⟨j, h1, _⟩
        · exact h2
        · omega
      have hin : ¬ (iClsTo P k).any (fun C => bsFound C (elAt P (k : Int))) = true := by
        rw [hany]; rintro ⟨C, hC, h⟩; exact hnot C hC h
      have hxk := elAt_vec G.v (k : Int) (by omega)
      obtain ⟨hok, hmem⟩ := G.sortL_ok hxk
      have e1 : clsTo P (k + 1) = (paint (marksTo P (elAt P (k : Int)) (ordP P).toNat) (clsTo P k).2 (clsTo P k).1 (ordP P).toNat, (clsTo P k).2 + 1) := by rw [clsTo, if_neg h0]
      have e2 : iClsTo P (k + 1) = iClsTo P k ++ [sortL (orb P (elAt P (k : Int)))] := by rw [iClsTo, if_neg hin]
      have hpg : ∀ t, t < (ordP P).toNat → gt (clsTo P (k + 1)).1 t = if gt (marksTo P (elAt P (k : Int)) (ordP P).toNat) t = true then ((clsTo P k).2 : Int) else gt (clsTo P k).1 t := fun t ht => by
        rw [e1]
        simp only
        rw [paint_gt _ _ _ _ t (by rw [clsTo_len]; exact ht)]
        by_cases hm : gt (marksTo P (elAt P (k : Int)) (ordP P).toNat) t = true
        · rw [if_pos ⟨ht, hm⟩, if_pos hm]
        · rw [if_neg (fun h => hm h.2), if_neg hm]
      -- a member of the new class stands in no old one
      have hdis : ∀ t, t < (ordP P).toNat → Cj P (elAt P (k : Int)) (elAt P (t : Int)) → ∀ C ∈ iClsTo P k, elAt P (t : Int) ∉ C := fun t ht h C hC hc =>
        hnot C hC (((I.ok C hC).cj _ hc _).2 (G.Cj_symm hxk h))
      have hnewat : gt (iClsTo P (k + 1)) (iClsTo P k).length = sortL (orb P (elAt P (k : Int))) := by rw [e2]; exact gt_concat _ _
      have hold : ∀ j, j < (iClsTo P k).length → gt (iClsTo P (k + 1)) j = gt (iClsTo P k) j := fun j hj => by rw [e2]; exact gt_append_left _ _ _ hj
      have hlen : (iClsTo P (k + 1)).length = (iClsTo P k).length + 1 := by rw [e2, List.length_append]; rfl
      have hat : ∀ t, t < (ordP P).toNat → (gt (clsTo P (k + 1)).1 t = -1 ∧ ∀ C ∈ iClsTo P (k + 1), elAt P (t : Int) ∉ C) ∨
          ∃ j : Nat, gt (clsTo P (k + 1)).1 t = j ∧ j < (iClsTo P (k + 1)).length ∧ elAt P (t : Int) ∈ gt (iClsTo P (k + 1)) j ∧ ∀ j', j' < (iClsTo P (k + 1)).length → elAt P (t : Int) ∈ gt (iClsTo P (k + 1)) j' → j' = j := fun t ht => by
        rw [hpg t ht]
        by_cases hm : gt (marksTo P (elAt P (k : Int)) (ordP P).toNat) t = true
        · rw [if_pos hm]
          have hc := (G.marks_cj hxk t ht).1 hm
          refine .inr ⟨(iClsTo P k).length, by rw [I.num], by omega, by rw [hnewat]; exact (hmem _).2 hc, fun j' hj' h => ?_⟩
          by_cases hlt : j' < (iClsTo P k).length
          · rw [hold j' hlt] at h
            exact absurd h (hdis t ht hc _ (gt_mem hlt))
          · omega
        · rw [if_neg hm]
          have hc : ¬ Cj P (elAt P (k : Int)) (elAt P (t : Int)) := fun h => hm ((G.marks_cj hxk t ht).2 h)
          rcases I.at_ t ht with ⟨h1, h2⟩ | ⟨j, h1, h2, h3, h4⟩
          · refine .inl ⟨h1, fun C hC => ?_⟩
            rw [e2, List.mem_append] at hC
            rcases hC with hC | hC
            · exact h2 C hC
            · rw [List.mem_singleton.1 hC]; exact fun h => hc ((hmem _).1 h)
          · refine .inr ⟨j, h1, by omega, by rw [hold j h2]; exact h3, fun j' hj' h => ?_⟩
            by_cases hlt : j' < (iClsTo P k).length
            · rw [hold j' hlt] at h; exact h4 j' hlt h
            · have : j' = (iClsTo P k).length := by omega
              rw [this, hnewat] at h
              exact absurd ((hmem _).1 h) hc
      refine ⟨by rw [e1, hlen]; simp only; rw [I.num], fun C hC => ?_, fun t ht => ?_, hat⟩
      · rw [e2, List.mem_append] at hC
        rcases hC with hC | hC
        · exact I.ok C hC
        · rw [List.mem_singleton.1 hC]; exact hok
      · rw [hpg t (by omega)]
        split
        · omega
        · rename_i hm
          rcases Nat.lt_succ_iff_lt_or_eq.1 ht with h | h
          · exact I.done t h
          · exfalso; apply hm; rw [h]; exact (G.marks_cj hxk k hkN).2 (G.Cj_refl hxk)

/-- every element has the number of its class -/
theorem Grp.rCls_bd : ∀ k, k < (ordP P).toNat → 0 ≤ gt (rCls P).1 k ∧ gt (rCls P).1 k < (rCls P).2 := by
  intro k hk
  have I := G.cls_inv (ordP P).toNat (Nat.le_refl _)
  have h1 := I.done k hk
  refine ⟨h1, ?_⟩
  unfold rCls
  rcases I.at_ k hk with ⟨h2, _⟩ | ⟨j, h2, h3, _⟩
  · omega
  · rw [h2, I.num]; omega

omit G in
theorem cnt_gt (L : List Int) (c k : Nat) (hb : ∀ t, t < k → 0 ≤ gt L t ∧ gt L t < c) : ∀ j, j < c → gt (cntTo L c k) j = (((List.range k).filter (fun t => decide (gt L t = (j : Int)))).length : Nat) := by
  induction k with
  | zero => intro j hj; simp [cntTo, gt, hj]
  | succ k ih =>
    intro j hj
    have hk := hb k (by omega)
    simp only [cntTo]
    rw [gt_set _ _ _ _ (by rw [cntTo_len]; exact hj), List.range_succ, List.filter_append, List.length_append]
    have ihj := ih (fun t ht => hb t (by omega)) j hj
    by_cases e : gt L k = (j : Int)
    · have e' : (gt L k).toNat = j := by omega
      rw [if_pos e', e', ihj]
      simp [e]
    · have e' : ¬ (gt L k).toNat = j := by omega
      rw [if_neg e', ihj]
      simp [e]

/-- both sides count the same sizes -/
theorem Grp.sizes_eq : iSizes P = rSizes P := by
  have I := G.cls_inv (ordP P).toNat (Nat.le_refl _)
  have hbd := G.rCls_bd
  unfold iSizes rSizes
  refine ext_gt ?_ (fun j hj => ?_)
  · rw [List.length_map, cntTo_len]; exact I.num.symm
  · rw [List.length_map] at hj
    have hj2 : j < (rCls P).2 := by show j < (clsTo P _).2; rw [I.num]; exact hj
    rw [gt_map _ _ _ hj, cnt_gt _ _ _ hbd j hj2]
    congr 1
    have ok := I.ok _ (gt_mem hj)
    have hnd : (((List.range (ordP P).toNat).filter (fun t => decide (gt (rCls P).1 t = (j : Int)))).map (fun t : Nat => elAt P (t : Int))).Nodup := by
      unfold List.Nodup
      rw [List.pairwise_map]
      have h1 : ((List.range (ordP P).toNat).filter (fun t => decide (gt (rCls P).1 t = (j : Int)))).Pairwise (fun a b => a ≠ b) := List.Pairwise.filter _ List.nodup_range
      refine List.Pairwise.imp_of_mem ?_ h1
      intro a b ha hb hne e
      have ha' := List.mem_range.1 (List.mem_filter.1 ha).1
      have hb' := List.mem_range.1 (List.mem_filter.1 hb).1
      have := congrArg (num P) e
      rw [num_elAt G.v _ (by omega) (by omega), num_elAt G.v _ (by omega) (by omega)] at this
      omega
    have hperm : (gt (iCls P) j).Perm (((List.range (ordP P).toNat).filter (fun t => decide (gt (rCls P).1 t = (j : Int)))).map (fun t : Nat => elAt P (t : Int))) := by
      refine (List.perm_ext_iff_of_nodup ok.nd hnd).2 (fun y => ?_)
      rw [List.mem_map]
      constructor
      · intro hy
        have hv := ok.vec y hy
        have hb := num_bd G.v hv
        have hey : elAt P (((num P y).toNat : Nat) : Int) = y := by
          rw [show (((num P y).toNat : Nat) : Int) = num P y by omega]; exact elAt_num G.v hv
        refine ⟨(num P y).toNat, List.mem_filter.2 ⟨List.mem_range.2 (by omega), decide_eq_true ?_⟩, hey⟩
        rcases I.at_ (num P y).toNat (by omega) with ⟨_, h2⟩ | ⟨j', h1, h2, h3, h4⟩
        · exact absurd hy (by rw [← hey]; exact h2 _ (gt_mem hj))
        · have : j = j' := h4 j hj (by rw [hey]; exact hy)
          rw [this]; exact h1
      · rintro ⟨t, ht, rfl⟩
        have ht1 := List.mem_range.1 (List.mem_filter.1 ht).1
        have ht2 : gt (rCls P).1 t = (j : Int) := of_decide_eq_true (List.mem_filter.1 ht).2
        rcases I.at_ t ht1 with ⟨h1, _⟩ | ⟨j', h1, h2, h3, _⟩
        · have h1' : gt (rCls P).1 t = -1 := h1
          omega
        · have h1' : gt (rCls P).1 t = (j' : Int) := h1
          have : j' = j := by omega
          rw [← this]; exact h3
    rw [hperm.length_eq, List.length_map]

end

end Go.Proofs.Ytbfbpjkpoepmkaa

/- Plain: lexicographic order is the order of numbers; all elements stand ascending. -/
namespace Go.Proofs.Ytbfbpjkpoepmkaa

theorem cmpL_append : ∀ (a b : List Int) (u v : Int), a.length = b.length → cmpL (a ++ [u]) (b ++ [v]) = if cmpL a b = 0 then cmpL [u] [v] else cmpL a b
  | [], [], u, v, _ => by simp [cmpL]
  | [], _ :: _, _, _, h => by simp at h
  | _ :: _, [], _, _, h => by simp at h
  | x :: a, y :: b, u, v, h => by
    have ih := cmpL_append a b u v (by simpa using h)
    generalize cmpL [u] [v] = c at ih ⊢
    simp only [List.cons_append, cmpL]
    rcases cmpI_cases x y with ⟨h1, _⟩ | ⟨h1, _⟩ | ⟨h1, _⟩ <;> simp [h1, ih]

theorem cmpL_one (u v : Int) : (cmpL [u] [v] < 0 ↔ u < v) ∧ (cmpL [u] [v] = 0 ↔ u = v) := by
  simp only [cmpL]
  rcases cmpI_cases u v with ⟨h1, h2⟩ | ⟨h1, h2⟩ | ⟨h1, h2⟩ <;> simp [h1] <;> omega

theorem cmpL_num {P : Pr} (hP : Valid P) {x y : List Int} (hx : Vec P.orders x) (hy : Vec P.orders y) : cmpL x y < 0 ↔ num P x < num P y := by
  have key : ∀ k, k ≤ P.orders.length → (cmpL (x.take k) (y.take k) < 0 ↔ numTo P.orders x k < numTo P.orders y k) ∧ (cmpL (x.take k) (y.take k) = 0 ↔ numTo P.orders x k = numTo P.orders y k) := by
    intro k
    induction k with
    | zero => intro _; simp [numTo, cmpL]
    | succ k ih =>
      intro hk
      obtain ⟨h1, h2⟩ := ih (by omega)
      have ho := hP.ord7 k (by omega)
      have hxk := hx.2 k (by omega)
      have hyk := hy.2 k (by omega)
      rw [take_succ_gt x k (by rw [hx.1]; omega), take_succ_gt y k (by rw [hy.1]; omega), cmpL_append _ _ _ _ (by simp [hx.1, hy.1])]
      simp only [numTo]
      obtain ⟨c1, c2⟩ := cmpL_one (gt x k) (gt y k)
      rcases Int.lt_trichotomy (numTo P.orders x k) (numTo P.orders y k) with h | h | h
      · have hc : cmpL (x.take k) (y.take k) < 0 := h1.2 h
        rw [if_neg (by omega)]
        have h3 : (numTo P.orders x k + 1) * gt P.orders k ≤ numTo P.orders y k * gt P.orders k := Int.mul_le_mul_of_nonneg_right (by omega) (by omega)
        rw [Int.add_mul, Int.one_mul] at h3
        exact ⟨⟨fun _ => by omega, fun _ => hc⟩, ⟨fun h => by omega, fun h => by omega⟩⟩
      · have hc : cmpL (x.take k) (y.take k) = 0 := h2.2 h
        rw [if_pos hc, h]
        exact ⟨by rw [c1]; omega, by rw [c2]; omega⟩
      · have hc : ¬ cmpL (x.take k) (y.take k) < 0 := fun e => by have := h1.1 e; omega
        have hc2 : ¬ cmpL (x.take k) (y.take k) = 0 := fun e => by have := h2.1 e; omega
        rw [if_neg hc2]
        have h3 : (numTo P.orders y k + 1) * gt P.orders k ≤ numTo P.orders x k * gt P.orders k := Int.mul_le_mul_of_nonneg_right (by omega) (by omega)
        rw [Int.add_mul, Int.one_mul] at h3
        exact ⟨⟨fun h => absurd h hc, fun h => by omega⟩, ⟨fun h => absurd h hc2, fun h => by omega⟩⟩
  have h := (key P.orders.length (Nat.le_refl _)).1
  rw [List.take_of_length_le (by rw [hx.1]; omega), List.take_of_length_le (by rw [hy.1]; omega)] at h
  exact h

/-- a list of different elements, ascending, is determined by its members -/
theorem asc_unique {P : Pr} (hP : Valid P) {L M : List (List Int)} (hL : ∀ x ∈ L, Vec P.orders x) (hsL : L.Pairwise (fun x y => num P x < num P y)) (hM : M.Pairwise (fun x y => num P x < num P y)) (h : ∀ x, x ∈ L ↔ x ∈ M) : L = M := by
  have nd : ∀ {K : List (List Int)}, K.Pairwise (fun x y => num P x < num P y) → K.Nodup := fun hK => hK.imp (fun h e => by rw [e] at h; omega)
  have hp : L.Perm M := (List.perm_ext_iff_of_nodup (nd hsL) (nd hM)).2 h
  have hMv : ∀ x ∈ M, Vec P.orders x := fun x hx => hL x ((h x).2 hx)
  have s1 : SortedL L := by
    refine List.Pairwise.imp_of_mem ?_ hsL
    intro a b ha hb hab
    have := (cmpL_num hP (hL a ha) (hL b hb)).2 hab
    omega
  have s2 : SortedL M := by
    refine List.Pairwise.imp_of_mem ?_ hM
    intro a b ha hb hab
    have := (cmpL_num hP (hMv a ha) (hMv b hb)).2 hab
    omega
  exact sorted_unique L M s1 s2 hp

open Classical in
/-- the elements of a set, ascending -/
noncomputable def elemsIn (P : Pr) (H : List Int → Prop) : List (List Int) := (List.range (ordP P).toNat).filterMap (fun t : Nat => if H (elAt P (t : Int)) then some (elAt P (t : Int)) else none)

theorem elemsIn_mem {P : Pr} (hP : Valid P) {H : List Int → Prop} (hH : ∀ x, H x → Vec P.orders x) (x : List Int) : x ∈ elemsIn P H ↔ H x := by
  unfold elemsIn
  rw [List.mem_filterMap]
  constructor
  · rintro ⟨t, _, h⟩
    split at h
    · cases h; assumption
    · cases h
  · intro h
    have hb := num_bd hP (hH x h)
    refine ⟨(num P x).toNat, List.mem_range.2 (by omega), ?_⟩
    have e : elAt P (((num P x).toNat : Nat) : Int) = x := by
      rw [show (((num P x).toNat : Nat) : Int) = num P x by omega]; exact elAt_num hP (hH x h)
    rw [e, if_pos h]

theorem elemsIn_asc {P : Pr} (hP : Valid P) (H : List Int → Prop) : (elemsIn P H).Pairwise (fun x y => num P x < num P y) := by
  unfold elemsIn
  rw [List.pairwise_filterMap]
  refine List.Pairwise.imp_of_mem ?_ (List.pairwise_lt_range (n := (ordP P).toNat))
  intro a b ha hb hab x hx y hy
  have ha' := List.mem_range.1 ha
  have hb' := List.mem_range.1 hb
  split at hx
  · split at hy
    · cases hx; cases hy
      rw [num_elAt hP _ (by omega) (by omega), num_elAt hP _ (by omega) (by omega)]
      omega
    · cases hy
  · cases hx

/-- sorted by the library, a list of different elements is the ascending one -/
theorem sort_elemsIn {P : Pr} (hP : Valid P) {H : List Int → Prop} (hH : ∀ x, H x → Vec P.orders x) {L : List (List Int)} (hn : L.Nodup) (hm : ∀ x, x ∈ L ↔ H x) : sortL L = elemsIn P H := by
  have hp := sortL_perm L
  have hmem : ∀ x, x ∈ sortL L ↔ H x := fun x => hp.mem_iff.trans (hm x)
  have hnd : (sortL L).Nodup := hp.nodup_iff.2 hn
  refine asc_unique hP (fun x hx => hH x ((hmem x).1 hx)) ?_ (elemsIn_asc hP H) (fun x => (hmem x).trans (elemsIn_mem hP hH x).symm)
  have hs := sortL_sorted L
  have h2 : (sortL L).Pairwise (fun x y => cmpL x y ≤ 0 ∧ x ≠ y) := by
    have := List.pairwise_and_iff.2 ⟨hs, hnd⟩
    exact this
  refine List.Pairwise.imp_of_mem ?_ h2
  intro a b ha hb hab
  have hva := hH a ((hmem a).1 ha)
  have hvb := hH b ((hmem b).1 hb)
  refine (cmpL_num hP hva hvb).1 ?_
  have h0 : cmpL a b ≠ 0 := fun e => hab.2 ((cmpL_zero a b).1 e)
  omega

end Go.Proofs.Ytbfbpjkpoepmkaa

/- Plain: the representatives of the classes are the same on both sides. -/
namespace Go.Proofs.Ytbfbpjkpoepmkaa

/-- the numbers of the first t elements that open a class -/
def firstsTo (L : List Int) (c : Nat) : Nat → List Int
  | 0 => []
  | t + 1 => if (firstsTo L c t).length < c ∧ gt L t = ((firstsTo L c t).length : Int) then firstsTo L c t ++ [(t : Int)] else firstsTo L c t
theorem firstsTo_len (L : List Int) (c t : Nat) : (firstsTo L c t).length ≤ t := by
  induction t with
  | zero => simp [firstsTo]
  | succ t ih =>
    simp only [firstsTo]
    split
    · rw [List.length_append]; simp; omega
    · omega
theorem firstsTo_bd (L : List Int) (c t : Nat) : ∀ x ∈ firstsTo L c t, 0 ≤ x ∧ x < (t : Int) := by
  induction t with
  | zero => simp [firstsTo]
  | succ t ih =>
    intro x hx
    simp only [firstsTo] at hx
    split at hx
    · rcases List.mem_append.1 hx with h | h
      · have := ih x h; omega
      · rw [List.mem_singleton.1 h]; omega
    · have := ih x hx; omega
theorem firstsTo_full (L : List Int) (c t j : Nat) (h : c ≤ (firstsTo L c t).length) : firstsTo L c (t + j) = firstsTo L c t := by
  induction j with
  | zero => rfl
  | succ j ih =>
    show firstsTo L c (t + j + 1) = _
    rw [firstsTo, ih, if_neg (fun hh => by omega)]
def rFirsts (P : Pr) : List Int := firstsTo (rCls P).1 (rCls P).2 (ordP P).toNat

/-- what both sides hand back -/
def repsOf (P : Pr) : List (List Int) := (iCls P).map (fun C => gt C 0)

section
variable {P : Pr} (G : Grp P)
include G

omit G in
theorem iClsTo_pre (P : Pr) (k j : Nat) : ∃ M, iClsTo P (k + j) = iClsTo P k ++ M := by
  induction j with
  | zero => exact ⟨[], by simp⟩
  | succ j ih =>
    obtain ⟨M, hM⟩ := ih
    show ∃ M, iClsTo P (k + j + 1) = _
    rw [iClsTo]
    split
    · exact ⟨M, hM⟩
    · exact ⟨M ++ [_], by rw [hM, List.append_assoc]⟩

/-- what is painted stays -/
theorem Grp.painted (k j t : Nat) (hk : k + j ≤ (ordP P).toNat) (ht : t < (ordP P).toNat) (h : 0 ≤ gt (clsTo P k).1 t) : gt (clsTo P (k + j)).1 t = gt (clsTo P k).1 t := by
  have I := G.cls_inv k (by omega)
  have I' := G.cls_inv (k + j) hk
  obtain ⟨M, hM⟩ := iClsTo_pre P k j
  rcases I.at_ t ht with ⟨h1, _⟩ | ⟨i, h1, h2, h3, _⟩
  · omega
  · have hin : elAt P (t : Int) ∈ gt (iClsTo P (k + j)) i := by rw [hM, gt_append_left _ _ _ h2]; exact h3
    have hil : i < (iClsTo P (k + j)).length := by rw [hM, List.length_append]; omega
    rcases I'.at_ t ht with ⟨_, k2⟩ | ⟨i', k1, k2, k3, k4⟩
    · exact absurd hin (k2 _ (gt_mem hil))
    · rw [k1, h1, k4 i hil hin]

/-- the first member of a class is its least -/
theorem Grp.least {C : List (List Int)} (ok : ClsOk P C) (k : Nat) (hk : k < (ordP P).toNat) (hin : elAt P (k : Int) ∈ C) (hmin : ∀ t, t < k → elAt P (t : Int) ∉ C) : gt C 0 = elAt P (k : Int) := by
  obtain ⟨i, hi, he⟩ := mem_gt hin
  have h0 : 0 < C.length := by omega
  have hv0 := ok.vec _ (gt_mem h0)
  have hle := sortedL_le ok.so (Nat.zero_le i) hi
  rw [he] at hle
  have hb := num_bd G.v hv0
  have hvk := elAt_vec G.v (k : Int) (by omega)
  have hnk := num_elAt G.v (k : Int) (by omega) (by omega)
  -- its number is at most k, and not below k
  have h1 : ¬ num P (elAt P (k : Int)) < num P (gt C 0) := fun h => by
    have h2 := (cmpL_num G.v hvk hv0).2 h
    have h3 := cmpL_swap (gt C 0) (elAt P (k : Int))
    omega
  have h2 : ¬ num P (gt C 0) < (k : Int) := fun h => by
    refine hmin (num P (gt C 0)).toNat (by omega) ?_
    have e : elAt P (((num P (gt C 0)).toNat : Nat) : Int) = gt C 0 := by
      rw [show (((num P (gt C 0)).toNat : Nat) : Int) = num P (gt C 0) by omega]; exact elAt_num G.v hv0
    rw [e]; exact gt_mem h0
  rw [hnk] at h1
  have h3 : num P (gt C 0) = (k : Int) := by omega
  rw [← elAt_num G.v hv0, h3]

theorem Grp.reps_to (k : Nat) (hk : k ≤ (ordP P).toNat) : (iClsTo P k).map (fun C => gt C 0) = (firstsTo (rCls P).1 (rCls P).2 k).map (elAt P) := by
  induction k with
  | zero => rfl
  | succ k ih =>
    have ihk := ih (by omega)
    have I := G.cls_inv k (by omega)
    have hkN : k < (ordP P).toNat := by omega
    have hlen : (firstsTo (rCls P).1 (rCls P).2 k).length = (iClsTo P k).length := by
      have := congrArg List.length ihk
      simpa using this.symm
    have hany : ((iClsTo P k).any (fun C => bsFound C (elAt P (k : Int))) = true) ↔ ∃ C ∈ iClsTo P k, elAt P (k : Int) ∈ C := by
      rw [List.any_eq_true]
      constructor
      · rintro ⟨C, hC, h⟩
        rw [bsFound_mem _ _ (I.ok C hC).so] at h
        exact ⟨C, hC, of_decide_eq_true h⟩
      · rintro ⟨C, hC, h⟩
        refine ⟨C, hC, ?_⟩
        rw [bsFound_mem _ _ (I.ok C hC).so]
        exact decide_eq_true h
    by_cases h0 : 0 ≤ gt (clsTo P k).1 k
    · have hin : (iClsTo P k).any (fun C => bsFound C (elAt P (k : Int))) = true := by
        rw [hany]
        rcases I.at_ k hkN with ⟨h1, _⟩ | ⟨j, h1, h2, h3, _⟩
        · omega
        · exact ⟨_, gt_mem h2, h3⟩
      have e2 : iClsTo P (k + 1) = iClsTo P k := by rw [iClsTo, if_pos hin]
      have hfin : gt (rCls P).1 k = gt (clsTo P k).1 k := by
        have := G.painted k ((ordP P).toNat - k) k (by omega) hkN h0
        rw [show k + ((ordP P).toNat - k) = (ordP P).toNat by omega] at this
        exact this
      have hlt : gt (rCls P).1 k ≠ ((firstsTo (rCls P).1 (rCls P).2 k).length : Int) := by
        rw [hfin, hlen]
        rcases I.at_ k hkN with ⟨h1, _⟩ | ⟨j, h1, h2, _⟩
        · omega
        · omega
      rw [e2, firstsTo, if_neg (fun h => hlt h.2)]
      exact ihk
    · have hnot : ∀ C ∈ iClsTo P k, elAt P (k : Int) ∉ C := by
        rcases I.at_ k hkN with ⟨_, h2⟩ | ⟨j, h1, _⟩
        · exact h2
        · omega
      have hin : ¬ (iClsTo P k).any (fun C => bsFound C (elAt P (k : Int))) = true := by
        rw [hany]; rintro ⟨C, hC, h⟩; exact hnot C hC h
      have hxk := elAt_vec G.v (k : Int) (by omega)
      obtain ⟨hok, hmem⟩ := G.sortL_ok hxk
      have e2 : iClsTo P (k + 1) = iClsTo P k ++ [sortL (orb P (elAt P (k : Int)))] := by rw [iClsTo, if_neg hin]
      have e1 : clsTo P (k + 1) = (paint (marksTo P (elAt P (k : Int)) (ordP P).toNat) (clsTo P k).2 (clsTo P k).1 (ordP P).toNat, (clsTo P k).2 + 1) := by rw [clsTo, if_neg h0]
      have hp1 : gt (clsTo P (k + 1)).1 k = ((clsTo P k).2 : Int) := by
        rw [e1]
        simp only
        rw [paint_gt _ _ _ _ k (by rw [clsTo_len]; exact hkN), if_pos ⟨hkN, (G.marks_cj hxk k hkN).2 (G.Cj_refl hxk)⟩]
      have hfin : gt (rCls P).1 k = ((iClsTo P k).length : Int) := by
        have := G.painted (k + 1) ((ordP P).toNat - (k + 1)) k (by omega) hkN (by rw [hp1]; omega)
        rw [show k + 1 + ((ordP P).toNat - (k + 1)) = (ordP P).toNat by omega] at this
        have h2 : gt (rCls P).1 k = gt (clsTo P (k + 1)).1 k := this
        rw [h2, hp1, I.num]
      have hcnt : (iClsTo P k).length < (rCls P).2 := by
        have I2 := G.cls_inv (ordP P).toNat (Nat.le_refl _)
        have h2 : (rCls P).2 = (iClsTo P (ordP P).toNat).length := I2.num
        obtain ⟨M, hM⟩ := iClsTo_pre P (k + 1) ((ordP P).toNat - (k + 1))
        rw [show k + 1 + ((ordP P).toNat - (k + 1)) = (ordP P).toNat by omega] at hM
        rw [h2, hM, e2, List.length_append, List.length_append]
        simp; omega
      rw [e2, List.map_append, ihk, firstsTo, if_pos ⟨by rw [hlen]; exact hcnt, by rw [hlen]; exact hfin⟩, List.map_append]
      congr 1
      simp only [List.map_cons, List.map_nil]
      congr 1
      refine G.least hok k hkN ((hmem _).2 (G.Cj_refl hxk)) (fun t ht hc => ?_)
      -- an earlier element has a class already
      have hcj := (hmem _).1 hc
      have hd := I.done t ht
      rcases I.at_ t (by omega) with ⟨h1, _⟩ | ⟨j, _, h2, h3, _⟩
      · omega
      · exact hnot _ (gt_mem h2) (((I.ok _ (gt_mem h2)).cj _ h3 _).2 (G.Cj_symm hxk hcj))

theorem Grp.reps_eq : repsOf P = (rFirsts P).map (elAt P) := G.reps_to _ (Nat.le_refl _)

end

end Go.Proofs.Ytbfbpjkpoepmkaa

/- impl.ClassRepresentatives: the first rows of the classes; each lies in a block of its own. -/
namespace Go.Proofs.Ytbfbpjkpoepmkaa
open Go.Proofs Go.RowKit

theorem iCls_ne {P : Pr} (G : Grp P) : ∀ C ∈ iCls P, 0 < C.length := by
  intro C hC
  have : ∀ k, k ≤ (ordP P).toNat → ∀ C ∈ iClsTo P k, 0 < C.length := by
    intro k
    induction k with
    | zero => intro _ C h; cases h
    | succ k ih =>
      intro hk C h
      rw [iClsTo] at h
      split at h
      · exact ih (by omega) C h
      · rcases List.mem_append.1 h with h1 | h1
        · exact ih (by omega) C h1
        · rw [List.mem_singleton.1 h1]
          have hx := elAt_vec G.v (k : Int) (by omega)
          have := (G.sortL_ok hx).2 _ |>.2 (G.Cj_refl hx)
          exact List.length_pos_of_mem this
  exact this _ (Nat.le_refl _) C hC

set_option maxRecDepth 100000 in
set_option maxHeartbeats 8000000 in
theorem iClassReps_ok (P : Pr) (w : World) (pv : Value) (Sp : Nat → Prop) (hpv : PresV Sp w pv P) :
    Calls Try.prog 8 #[pv] w (Ret w fun w' v => ∃ r, v = .tuple #[r, .int .i64 (clsCode P (iconsB P))] ∧ ((clsCode P (iconsB P) ≠ 0 ∧ r = .slice none 0 0) ∨ (clsCode P (iconsB P) = 0 ∧ RowsO w.heap.size w' r (repsOf P)))) := by
  obtain ⟨vo, vp, vc, rfl, h3⟩ := hpv
  have hp0 := PresP.box h3 30
  have hg0 : Ext w (w.alloc (.cells #[vo, vp, vc] 30)) := World.grownBy_alloc _ _ _
  go_enter Try.func8, Try.ntmps8
  go_wp2_with fail
  refine Calls.mono (classesOf_ok P _ _ _ hp0) ?_
  rintro eA wA ⟨vA, rfl, hgA, r, rfl, hr⟩
  have hgw := grown_trans hg0 hgA
  rcases hr with ⟨hz, rfl⟩ | ⟨hz, hC⟩
  · have hz' : (clsCode P (iconsB P) != 0) = true := by simpa using hz
    go_wp2
    exact bodyPost_ret (v := .tuple #[.slice none 0 0, .int .i64 (clsCode P (iconsB P))]) (by simp [results, Try.results8, go_sem]) rfl ⟨_, rfl, hgw, _, rfl, .inl ⟨hz, rfl⟩⟩
  · have hlen : (iCls P).length ≤ (ordP P).toNat := iClsTo_len P _
    have hi : iconsB P = true := by
      cases hi : iconsB P with
      | false => rw [hi] at hz; simp [clsCode] at hz
      | true => rfl
    have h128 : ordP P ≤ 128 := by
      rw [hi] at hz; simp only [clsCode, if_true] at hz; split at hz <;> omega
    have GP : Grp P := grp_of_r (by rw [← icons_eq P]; exact hi)
    have hne := iCls_ne GP
    clear hi
    obtain ⟨G, H, hA, hG⟩ := SlD.g (hC.toD (by omega))
    obtain ⟨ac, capc, hv, hl, hcell⟩ := hG
    subst hv
    -- the first rows, by index
    have hrow : ∀ i, i < (iCls P).length → ∃ u : Value × Value, ∃ b off b2 off2 a2 n2 c2, ac = some ⟨b, off, none⟩ ∧ b < wA.heap.size ∧ wA.cell? ⟨b, off + i, none⟩ = some u.1 ∧ u.1 = .slice a2 n2 c2 ∧ 0 < n2 ∧ a2 = some ⟨b2, off2, none⟩ ∧ b2 < wA.heap.size ∧
        wA.cell? ⟨b2, off2, none⟩ = some u.2 ∧ OwnIn (fun k => G i k ∧ k < wA.heap.size) wA u.2 (gt (gt (iCls P) i) 0) := fun i hi => by
      obtain ⟨b, off, u, e1, e2, e3, e4, e5⟩ := hcell i hi
      obtain ⟨G2, H2, hA2, a2, c2, rfl, hl2, hc2⟩ := SlD.g e5
      have h0 := hne _ (gt_mem hi)
      obtain ⟨b2, off2, u2, f1, f2, f3, f4, f5⟩ := hc2 0 h0
      refine ⟨(.slice a2 (gt (iCls P) i).length c2, u2), b, off, b2, off2, a2, _, c2, e1, e3, e4, rfl, h0, f1, f3, by simpa using f4, rdOwn.mono f5 (fun k hk hlt => ⟨⟨(hA2.2.1 0 k h0 hk).1, hlt⟩, hlt, rfl⟩)⟩
    obtain ⟨U, hU⟩ := Go.Deep.choose_lt (α := Value × Value) hrow
    have HU := Lib.hid hU; clear hU hrow hcell
    have HZ := Lib.hid hz
    rw [hz]
    clear hz
    go_wp2
    go_loopw [6, 18] (fun v kv wr => ∃ k : Nat, kv = .int .i64 k ∧ k ≤ (iCls P).length ∧ Ext wA wr ∧ OwnV wA.heap.size 22 wr v ((List.range k).map (fun i => (U i).2))) (fun _ kv _ => (iCls P).length - (intOf kv).toNat)
    case atStart => exact ⟨0, rfl, by omega, Ext.refl _, World.ownsRow_nil _ _ _ _⟩
    case round =>
      obtain ⟨k, rfl, hk, hg, hO⟩ := hrel
      by_cases hlt : k < (iCls P).length
      · have hlt' : (k : Int) < (iCls P).length := by omega
        obtain ⟨b, off, b2, off2, a2, n2, c2, e1, e2, e3, e4, e5, e6, e7, e8, e9⟩ := HU.out k hlt
        cases e1; cases e6
        rw [e4] at e3
        obtain ⟨au, nu, cu, hu⟩ : ∃ au nu cu, (U k).2 = .slice au nu cu := by obtain ⟨a, c, hv, _⟩ := e9.ints.shape; exact ⟨_, _, _, hv⟩
        have hone : (U k).2.oneCell' = true := rdOwn.one e9
        rw [hu] at e8
        have hc1 := hg.cell e3 (by simp)
        have hc2 := hg.cell e8 (by simp)
        have hn0 : (0 : Int) < n2 := by omega
        have HK := Lib.hid (And.intro hu hone); clear e3 e4 e8 e9 hu hone
        have hnews : ∀ j, j < 1 → ∃ b off, (some (⟨wr.heap.size, 0, none⟩ : Addr)) = some ⟨b, off, none⟩ ∧ (wr.alloc (.cells #[.slice au nu cu] 22)).cell? ⟨b, off + j, none⟩ = some (gt [Value.slice au nu cu] j) := fun j hj => by
          have h0 : j = 0 := by omega
          subst h0
          exact ⟨wr.heap.size, 0, rfl, by rw [World.cell?_alloc_at _ _ _ _ rfl]; rfl⟩
        have hO1 : OwnV wA.heap.size 22 (wr.alloc (.cells #[.slice au nu cu] 22)) u6 ((List.range k).map (fun i => (U i).2)) := hO.kept (World.grownBy_alloc wr _ none) (by cases _hv : Value.ownBlock u6 <;> simp)
        have HN := Lib.hid (And.intro hnews hO1); clear hnews hO1
        go_wp2_with (at_builtin; go_must (refine wp_app 23 22 (.slice none 0 0) 24 und_rows Try.infoRow rfl (by decide) rfl _ _ rfl wA.heap.size _ ((List.range k).map (fun i => (U i).2)) rfl HN.out.2 (some ⟨wr.heap.size, 0, none⟩) 1 1 [.slice au nu cu] rfl rfl (by simp) HN.out.1 (fun u hu => by simp at hu; subst hu; rfl) (by simp; omega) (by have := hg.size; simp; omega) ?_); intro v5 w5 hO5 hg5 _ _)
        have hgx : Ext wA w5 := grown_own (grown_trans hg (World.grownBy_alloc _ _ _)) hg5 (fun j hj hlt => by have := (hO.lt j hj).1; omega)
        go_roundw
        case rel => exact ⟨k + 1, by go_num, by omega, hgx, by rw [List.range_succ, List.map_append, List.map_cons, List.map_nil, HK.out.1]; exact hO5⟩
        case measure => simp [intOf]; omega
      · have hke : k = (iCls P).length := by omega
        subst hke
        have hfin : RowsO w.heap.size wr u6 (repsOf P) := by
          have hlr : (repsOf P).length = (iCls P).length := by unfold repsOf; rw [List.length_map]
          have hgV : ∀ i, i < (iCls P).length → gt ((List.range (iCls P).length).map (fun i => (U i).2)) i = (U i).2 := fun i hi => by simp [gt, hi]
          refine ⟨(List.range (iCls P).length).map (fun i => (U i).2), fun i k => G i k ∧ k < wA.heap.size, by rw [hlr]; simp, ?_, fun i k hi hk => ?_, fun i j k hi hj hk hk' => ?_, fun i hi => ?_⟩
          · obtain ⟨q1, q2⟩ := hO
            refine ⟨q1, q2.imp id (fun ⟨g, cap, cur, a1, a2, a3⟩ => ⟨g, cap, cur, a1, by have := hgw.size; omega, a3⟩)⟩
          · rw [hlr] at hi
            have h1 := (hA.2.1 i k hi hk.1).1
            have h2 : w.heap.size ≤ k := by have h1 : _ ≤ k := h1; have := hg0.size; omega
            exact ⟨h2, fun e => by have := (hO.lt k e).1; omega, by have := hg.size; omega⟩
          · rw [hlr] at hi hj
            exact hA.2.2 i j k hi hj hk.1 hk'.1
          · rw [hlr] at hi
            obtain ⟨_, _, _, _, _, _, _, _, _, _, _, _, _, _, _, e9⟩ := HU.out i hi
            rw [hgV i hi]
            have hgr : gt (repsOf P) i = gt (gt (iCls P) i) 0 := gt_map _ _ _ hi
            rw [hgr]
            exact rdOwn.mono e9 (fun k hk hlt => ⟨hk, Nat.lt_of_lt_of_le hlt hg.size, hg.block k hlt (by simp)⟩)
        have hlr : (repsOf P).length ≤ 128 := by unfold repsOf; rw [List.length_map]; omega
        obtain ⟨az, caps, hvz, _, _⟩ := SlD.shape (hfin.toD (by omega))
        subst hvz
        clear hO
        go_wp2
        exact bodyPost_ret (v := .tuple #[.slice az (repsOf P).length caps, .int .i64 0]) (by simp [results, Try.results8, go_sem]) rfl ⟨_, rfl, grown_trans hgw hg, _, by rw [HZ.out], .inr ⟨HZ.out, hfin⟩⟩

end Go.Proofs.Ytbfbpjkpoepmkaa

/- The reference's representatives: spec.l18Firsts, spec.ClassRepresentatives. -/
namespace Go.Proofs.Ytbfbpjkpoepmkaa
open Go.RowKit

set_option maxRecDepth 100000 in
set_option maxHeartbeats 8000000 in
theorem l18Firsts_ok (P : Pr) (hP : Valid P) (w : World) (pv : Value) (Sp : Nat → Prop) (hpv : PresV Sp w pv P) :
    Calls Try.prog 23 #[pv] w (Ret w fun w' v => Own w.heap.size w' v (rFirsts P)) := by
  have h729 : ordP P ≤ 729 := hP.le729
  obtain ⟨vo, vp, vc, rfl, h3⟩ := hpv
  have hg0 : Ext w (w.alloc (.cells #[vo, vp, vc] 30)) := World.grownBy_alloc _ _ _
  go_enter Try.func23, Try.ntmps23
  go_wp2_with fail
  refine Calls.mono (l18Classes_ok P hP _ _ _ ⟨_, _, _, rfl, Pres3.ext h3 (World.grownBy_alloc _ _ _)⟩) ?_
  rintro eA wA ⟨vA, rfl, hgA, r, rfl, hO⟩
  have hgw := grown_trans hg0 hgA
  have hlr : (rCls P).1.length = (ordP P).toNat := clsTo_len P _
  have hcn : (rCls P).2 ≤ (ordP P).toNat := clsTo_num P _
  have hOi := hO.ints (by rw [hlr]; omega)
  obtain ⟨gL, capL, rfl, _, _⟩ := hOi.shape
  have HLR := Lib.hid hlr
  rw [hlr] at hOi
  simp only [hlr]
  clear hlr hO
  have hl0 : Own wA.heap.size (wA.alloc (.cells #[] 2)) (.slice (some ⟨wA.heap.size, 0, none⟩) 0 0) ([] : List Int) := World.ownsRow_lit wA #[] 0 (Nat.le_refl _) (by decide) rfl
  have HL0 := Lib.hid hl0; clear hl0
  go_wp2
  go_loopw [5, 6] (fun ov tv wr => ∃ t : Nat, tv = .int .i64 t ∧ t ≤ (ordP P).toNat ∧ Ext wA wr ∧ Own wA.heap.size wr ov (firstsTo (rCls P).1 (rCls P).2 t)) (fun _ tv _ => (ordP P).toNat - (intOf tv).toNat)
  case atStart => exact ⟨0, rfl, by omega, World.grownBy_alloc _ _ _, HL0.out⟩
  case round =>
    obtain ⟨t, rfl, ht, hg, hF⟩ := hrel
    have hfl := firstsTo_len (rCls P).1 (rCls P).2 t
    have hFi := hF.ints (by omega)
    obtain ⟨aF, capF, rfl, _, _⟩ := hFi.shape
    by_cases hlt : t < (ordP P).toNat
    · have hlt' : (t : Int) < ordP P := by omega
      have hlt'' : (t : Int) < max (ordP P) 0 := by omega
      by_cases hlc : (firstsTo (rCls P).1 (rCls P).2 t).length < (rCls P).2
      · obtain ⟨b, off, hab, _, _, hc⟩ := Ints.at (hOi.ext hg) t (by rw [HLR.out]; exact hlt)
        cases hab
        have hstep : firstsTo (rCls P).1 (rCls P).2 (t + 1) = if (firstsTo (rCls P).1 (rCls P).2 t).length < (rCls P).2 ∧ gt (rCls P).1 t = ((firstsTo (rCls P).1 (rCls P).2 t).length : Int) then firstsTo (rCls P).1 (rCls P).2 t ++ [(t : Int)] else firstsTo (rCls P).1 (rCls P).2 t := rfl
        have HS := Lib.hid hstep; clear hstep
        by_cases hx : gt (rCls P).1 t = ((firstsTo (rCls P).1 (rCls P).2 t).length : Int)
        · have hs := HS.out
          rw [if_pos ⟨hlc, hx⟩] at hs
          have HS2 := Lib.hid hs; clear hs
          have hx' : (gt (rCls P).1 t == ((firstsTo (rCls P).1 (rCls P).2 t).length : Int)) = true := by simp [hx]
          clear hx
          go_wp2_with (at_builtin; go_must (refine wp_app_ints rfl _ _ rfl wA.heap.size _ (firstsTo (rCls P).1 (rCls P).2 t) rfl (hF.ext0 (World.grownBy_alloc _ _ _)) _ [(t : Int)] rfl Any (Own.ints (World.ownsRow_lit wr #[.int .i64 (t : Int)] 1 (Nat.zero_le _) (by decide) rfl) (by simp)) (by simp; omega) (by have := hg.size; simp; omega) ?_); intro v5 w5 hO5 hg5 _)
          have hgx : Ext wA w5 := grown_own (grown_trans hg (World.grownBy_alloc _ _ _)) hg5 (fun j hj hlt => by have := (hF.lt j hj).1; omega)
          go_roundw
          case rel => exact ⟨t + 1, by go_num, by omega, hgx, by rw [HS2.out]; exact hO5⟩
          case measure => simp [intOf]; omega
        · have hs := HS.out
          rw [if_neg (fun h => hx h.2)] at hs
          have HS2 := Lib.hid hs; clear hs
          have hx' : (gt (rCls P).1 t == ((firstsTo (rCls P).1 (rCls P).2 t).length : Int)) = false := by simp [hx]
          clear hx
          go_wp2
          go_roundw
          case rel => exact ⟨t + 1, by go_num, by omega, hg, by rw [HS2.out]; exact hF⟩
          case measure => simp [intOf]; omega
      · have hfull : rFirsts P = firstsTo (rCls P).1 (rCls P).2 t := by
          have := firstsTo_full (rCls P).1 (rCls P).2 t ((ordP P).toNat - t) (by omega)
          rw [show t + ((ordP P).toNat - t) = (ordP P).toNat by omega] at this
          exact this
        have HF := Lib.hid hfull; clear hfull
        go_wp2
        go_ret
        exact ⟨_, rfl, grown_trans hgw hg, by rw [HF.out]; exact hF.weak hgw.size⟩
    · have hke : t = (ordP P).toNat := by omega
      subst hke
      go_wp2
      go_ret
      exact ⟨_, rfl, grown_trans hgw hg, hF.weak hgw.size⟩

end Go.Proofs.Ytbfbpjkpoepmkaa

/- append of one element inside a region that draws its order. -/
namespace Go.Proofs.Ytbfbpjkpoepmkaa
open Go.RowKit

theorem step_app (T E : Nat) (z : Value) (bytes : Nat) (hT : Try.prog.underlying T = some (.slice E)) (hE : (Try.prog.info? E).map (fun i => (i.zero, i.size, i.bytes)) = some (some z, 1, bytes))
    (hzs : z.cells.size = 1) (hbt : bytes ≤ 64) {ops : Array Oper} {o : Oper} {a : Act} {K : Act → World → Prop} {Q : Exit → Act → World → Prop} {Ex : Prop} {w : World} (hgd : o.guard = none) (s x : Operand)
    (ho : o.op = Op.call { callee := Callee.builtin Builtin.append, args := #[s, x], argTypes := #[T, T] }) (base : Nat) (v : Value) (xs : List Value) (hs : a.eval s = v) (hown : OwnV base E w v xs)
    (H : Nat) (u : Value) (hx : a.eval x = .slice (some ⟨H, 0, none⟩) 1 1) (hu : w.cell? ⟨H, 0, none⟩ = some u) (h1 : u.oneCell' = true) (hlen : xs.length ≤ 2000000) (hbase : base ≤ w.heap.size)
    (h : ∀ v' w', OwnV base E w' v' (xs ++ [u]) → w.grownBy w' v.ownBlock → (v'.ownBlock = v.ownBlock ∨ v'.ownBlock = some w.heap.size) → K (a.put o.dst v') w') :
    if Region.wanted o (yielded ops a.tmps) = true then Oper.wp Try.prog o a w K Q else Ex := by
  obtain ⟨i0, hi, hz0, hz1, hz2⟩ := info_parts hE
  refine step_append_lies w hgd s x T ho base E i0 z 1 bytes hT hi hz0 hz1 hz2 hzs (by decide) v xs.length xs hs hown ⟨H, 0, none⟩ 1 1 [u] hx rfl ?_ ?_ (by omega) (by unfold maxLen; omega) (by have := Nat.mul_le_mul (show xs.length + 1 ≤ 2000001 by omega) hbt; omega) hbase w.heap.size rfl ?_
  · intro j u' hj
    match j, hj with
    | 0, hj =>
      simp at hj; subst hj
      simpa [Addr.add] using hu
  · intro u' hu'
    simp at hu'; subst hu'; exact h1
  · intro g cap w' k1 k2 k3 _
    refine h _ w' ?_ k2 ?_
    · unfold OwnV; rw [List.length_append]; exact k1
    · rcases k3 with k3 | k3
      · left; rw [k3]; rfl
      · right; rw [← k3]; rfl

/-- append of one element that was made since, in a region that draws -/
theorem step_app_one {α : Type} [Inhabited α] {El : (Nat → Prop) → World → Value → α → Prop} (hEl : RdOk El) (T E : Nat) (z : Value) (bytes : Nat) (hT : Try.prog.underlying T = some (.slice E))
    (hE : (Try.prog.info? E).map (fun i => (i.zero, i.size, i.bytes)) = some (some z, 1, bytes)) (hzs : z.cells.size = 1) (hbt : bytes ≤ 64)
    {ops : Array Oper} {o : Oper} {a : Act} {K : Act → World → Prop} {Q : Exit → Act → World → Prop} {Ex : Prop} {w : World} (hgd : o.guard = none) (s x : Operand)
    (ho : o.op = Op.call { callee := Callee.builtin Builtin.append, args := #[s, x], argTypes := #[T, T] }) (B : Nat) (w1 w2 : World) (v u : Value) (xs : List α) (y : α) (hs : a.eval s = v) (hown : SlO El E B w1 v xs)
    (hg : Ext w1 w2) (hu : El (From w1.heap.size) w2 u y) (hw : w = w2.alloc (.cells #[u] E)) (hx : a.eval x = .slice (some ⟨w2.heap.size, 0, none⟩) 1 1) (hlen : xs.length ≤ 1000000) (hbase : B ≤ w1.heap.size)
    (h : ∀ v' w', SlO El E B w' v' (xs ++ [y]) → w1.grownBy w' v.ownBlock → w2.grownBy w' v.ownBlock → K (a.put o.dst v') w') :
    if Region.wanted o (yielded ops a.tmps) = true then Oper.wp Try.prog o a w K Q else Ex := by
  subst hw
  obtain ⟨vs, G, hvl, hO, hG, hd, hEx⟩ := hown
  have hga : Ext w2 (w2.alloc (.cells #[u] E)) := World.grownBy_alloc _ _ _
  have hO2 : OwnV B E (w2.alloc (.cells #[u] E)) v vs := hO.kept (grown_trans hg hga) (by cases hv : v.ownBlock <;> simp)
  refine step_app T E z bytes hT hE hzs hbt hgd s x ho B v vs hs hO2 w2.heap.size u hx (by rw [World.cell?_alloc_at _ _ _ _ rfl]; rfl) (hEl.one hu) (by omega) (by have := hg.size; simp; omega) ?_
  intro v' w' h1 h2 hat
  have hvb : ∀ k, v.ownBlock = some k → B ≤ k ∧ k < w1.heap.size := hO.lt
  have hg2 : w2.grownBy w' v.ownBlock := grown_trans (grown_of_ext _ hga) h2
  have hg1 : w1.grownBy w' v.ownBlock := grown_trans (grown_of_ext _ hg) hg2
  have hv'b : ∀ k, v'.ownBlock = some k → v.ownBlock = some k ∨ w2.heap.size < k + 1 := by
    intro k hk
    rcases hat with h | h
    · exact .inl (by rw [← h]; exact hk)
    · rw [h] at hk
      have : (w2.alloc (.cells #[u] E)).heap.size = k := by simpa using hk
      simp at this
      exact .inr (by omega)
  have hsz2 := hg.size
  refine h v' w' ⟨vs ++ [u], fun i k => if i < xs.length then G i k ∧ k < w1.heap.size else w1.heap.size ≤ k ∧ k < w2.heap.size, by simp [hvl], h1, ?_, ?_, ?_⟩ hg1 hg2
  · intro i k hi hk
    split at hk
    · rename_i hlt
      obtain ⟨a1, a2, a3⟩ := hG i k hlt hk.1
      refine ⟨a1, fun hv' => ?_, Nat.lt_of_lt_of_le a3 hg1.size⟩
      rcases hv'b k hv' with h | h
      · exact a2 h
      · omega
    · refine ⟨by omega, fun hv' => ?_, Nat.lt_of_lt_of_le hk.2 hg2.size⟩
      rcases hv'b k hv' with h | h
      · have := hvb k h; omega
      · omega
  · intro i j k hi hj hk hk'
    simp only [List.length_append, List.length_singleton] at hi hj
    split at hk <;> split at hk'
    · exact hd i j k (by assumption) (by assumption) hk.1 hk'.1
    · omega
    · omega
    · omega
  · intro i hi
    simp only [List.length_append, List.length_singleton] at hi
    by_cases hlt : i < xs.length
    · rw [gt_append_left _ _ _ (by omega), gt_append_left _ _ _ hlt]
      simp only [if_pos hlt]
      exact hEl.mono (hEx i hlt) (fun k hk hkl => ⟨⟨hk, hkl⟩, Nat.lt_of_lt_of_le hkl hg1.size, hg1.block k hkl (fun e => (hG i k hlt hk).2.1 e.symm)⟩)
    · have hi2 : i = xs.length := by omega
      subst hi2
      rw [gt_concat, ← hvl, gt_concat]
      simp only [hvl, Nat.lt_irrefl, if_false]
      exact hEl.mono hu (fun k hk hkl => ⟨⟨hk, hkl⟩, Nat.lt_of_lt_of_le hkl hg2.size, hg2.block k hkl (fun e => by
        have hk : w1.heap.size ≤ k := hk
        have := hvb k e.symm; omega)⟩)

/-- append(rows, row), the row made since -/
theorem step_app_row {ops : Array Oper} {o : Oper} {a : Act} {K : Act → World → Prop} {Q : Exit → Act → World → Prop} {Ex : Prop} {w : World} (hgd : o.guard = none) (s x : Operand)
    (ho : o.op = Op.call { callee := Callee.builtin Builtin.append, args := #[s, x], argTypes := #[23, 23] }) (B : Nat) (w1 w2 : World) (v u : Value) (xs : List (List Int)) (y : List Int) (hs : a.eval s = v) (hown : RowsO B w1 v xs)
    (hg : Ext w1 w2) (hu : OwnIn (From w1.heap.size) w2 u y) (hw : w = w2.alloc (.cells #[u] 22)) (hx : a.eval x = .slice (some ⟨w2.heap.size, 0, none⟩) 1 1) (hlen : xs.length ≤ 1000000) (hbase : B ≤ w1.heap.size)
    (h : ∀ v' w', RowsO B w' v' (xs ++ [y]) → w1.grownBy w' v.ownBlock → w2.grownBy w' v.ownBlock → K (a.put o.dst v') w') :
    if Region.wanted o (yielded ops a.tmps) = true then Oper.wp Try.prog o a w K Q else Ex :=
  step_app_one rdOwn 23 22 (.slice none 0 0) 24 und_rows Try.infoRow rfl (by decide) hgd s x ho B w1 w2 v u xs y hs hown hg hu hw hx hlen hbase h

end Go.Proofs.Ytbfbpjkpoepmkaa

/- The rows' arguments: how a presentation that came in, or a list, reads in this claim's words. -/
namespace Go.Proofs.Ytbfbpjkpoepmkaa
open Go.RowKit Go.ChangeShapes Go.WideShapes Go.Deep

theorem cells_int64 : Try.prog.cellsOf 2 = 1 := by kernel_rfl
theorem cells_ints : Try.prog.cellsOf 22 = 1 := by kernel_rfl
theorem cells_rows : Try.prog.cellsOf 23 = 1 := by kernel_rfl

section
variable {H : Type} {enc : TypeId × Value → H} {W : World} {sp : Nat → Bool}

/-- a slice that was read is one of this claim's slices -/
theorem open_sl {α : Type} [Inhabited α] {El : World → Value → α → Prop} {t e : TypeId} (ht : Try.prog.underlying t = some (.slice e)) (hc : Try.prog.cellsOf e = 1)
    (hEl : ∀ n c x, DataW.trod enc Try.prog W 0 sp true n e [c] = some x → ∃ y, El W c y) {fuel : Nat} {c : Value} {x : DataW H × List MemPlace} (h : DataW.trod enc Try.prog W 0 sp true fuel t [c] = some x) :
    ∃ xs : List α, Sl El Any W c xs := by
  rcases open_slice1 ht hc h with ⟨hcs, _⟩ | ⟨a, len, cap, m, n, V, D, Pl, hcs, _, hl, hm, hmm, _, hx⟩
  · cases hcs
    exact ⟨[], none, 0, rfl, ⟨by simp, by simp, fun _ => rfl⟩, fun i hi => by simp at hi⟩
  · cases hcs
    have hlm : len ≤ m := by rw [hmm]; split <;> omega
    obtain ⟨Z, hZ⟩ := choose_lt (α := α) (n := len) (p := fun i y => El W (V i) y) (fun i hi => hEl n (V i) _ (hx i (by omega)).2)
    refine ⟨(List.range len).map Z, some a, cap, by simp, ⟨by simpa using hl, by simp; unfold maxLen at hm; omega, fun h => by cases h⟩, fun i hi => ?_⟩
    simp only [List.length_map, List.length_range] at hi
    obtain ⟨h1, h2⟩ := hx i (by omega)
    obtain ⟨b, off, spot⟩ := a
    have hs : spot = none := by
      have h0 := (hx 0 (by omega)).1
      exact World.cell?_spot (by simpa [Addr.add] using h0)
    subst hs
    have hcell : W.cell? ⟨b, off + i, none⟩ = some (V i) := by
      have e : (⟨b, off, none⟩ : Addr).add i = ⟨b, off + i, none⟩ := by
        unfold Addr.add; split
        · rename_i h; subst h; rfl
        · rfl
      rw [← e]; exact h1
    refine ⟨b, off, V i, rfl, trivial, World.block_lt_of_cell? W _ hcell, hcell, ?_⟩
    have : gt ((List.range len).map Z) i = Z i := by simp [gt, hi]
    rw [this]; exact hZ i hi

theorem open_i64 {n : Nat} {c : Value} {x : DataW H × List MemPlace} (h : DataW.trod enc Try.prog W 0 sp true n 2 [c] = some x) : ∃ y, IntEl W c y := by
  cases n with
  | zero => simp [DataW.trod] at h
  | succ n =>
    unfold DataW.trod at h
    rw [und_int64] at h
    cases c <;> simp at h
    rename_i k z
    obtain ⟨⟨rfl, _⟩, _⟩ := h
    exact ⟨z, rfl⟩
theorem open_i64s {n : Nat} {c : Value} {x : DataW H × List MemPlace} (h : DataW.trod enc Try.prog W 0 sp true n 22 [c] = some x) : ∃ l, Ints Any W c l :=
  open_sl und_ints cells_int64 (fun _ _ _ h => open_i64 h) h
theorem open_rows2 {n : Nat} {c : Value} {x : DataW H × List MemPlace} (h : DataW.trod enc Try.prog W 0 sp true n 23 [c] = some x) : ∃ l, Rows2 Any W c l :=
  open_sl (El := fun w u x => Ints Any w u x) und_rows cells_ints (fun _ _ _ h => open_i64s h) h
theorem open_rows3 {n : Nat} {c : Value} {x : DataW H × List MemPlace} (h : DataW.trod enc Try.prog W 0 sp true n 24 [c] = some x) : ∃ l, Rows3 Any W c l :=
  open_sl (El := fun w u x => Rows2 Any w u x) und_rows3 cells_rows (fun _ _ _ h => open_rows2 h) h

theorem cells_pres : Try.prog.cellsOf 26 = 3 := by kernel_rfl

set_option maxRecDepth 100000 in
/-- a presentation that came in -/
theorem open_pres {base : Nat} {v : Value} {d : DataW H} {p : List MemPlace} (hv : Value.okWide Try.prog W .any base 26 v) (h : DataW.Trod enc Try.prog W 0 sp true 26 v d p) : ∃ P, PresV Any W v P := by
  obtain ⟨fs, hfs, h3⟩ : ∃ fs, Try.prog.underlying 26 = some (.struct fs) ∧ fs.map (fun f => (f.offset, f.type)) = #[(0, 22), (1, 23), (2, 24)] := ⟨_, Try.underlying26, by simp⟩
  obtain ⟨cs, rfl, hsz⟩ := okWide_struct hfs hv
  rw [cells_pres] at hsz
  obtain ⟨n, hn⟩ := h
  obtain ⟨xs, m, _, _, hl, hlen, hf⟩ := DataW.trod_struct hfs hn
  obtain ⟨c0, c1, c2, rfl⟩ : ∃ c0 c1 c2, cs = #[c0, c1, c2] := by
    match cs, hsz with
    | ⟨[c0, c1, c2]⟩, _ => exact ⟨c0, c1, c2, rfl⟩
  have hfsz : fs.size = 3 := by have := congrArg Array.size h3; simpa using this
  have hget : ∀ i (hi : i < 3), ∃ f, fs[i]? = some f ∧ (f.offset, f.type) = (#[(0, 22), (1, 23), (2, 24)] : Array (Nat × TypeId))[i]'(by simpa using hi) := fun i hi => by
    have h1 : (fs.map (fun f => (f.offset, f.type)))[i]? = (#[(0, 22), (1, 23), (2, 24)] : Array (Nat × TypeId))[i]? := by rw [h3]
    rw [Array.getElem?_map, Array.getElem?_eq_getElem (by omega), Array.getElem?_eq_getElem (by simpa using hi)] at h1
    exact ⟨_, Array.getElem?_eq_getElem (by omega), by simpa using h1⟩
  obtain ⟨f0, g0, e0⟩ := hget 0 (by omega)
  obtain ⟨f1, g1, e1⟩ := hget 1 (by omega)
  obtain ⟨f2, g2, e2⟩ := hget 2 (by omega)
  simp only [Prod.mk.injEq, List.getElem_toArray, List.getElem_cons_zero, List.getElem_cons_succ] at e0 e1 e2
  have k0 := hf 0 f0 g0
  have k1 := hf 1 f1 g1
  have k2 := hf 2 f2 g2
  rw [e0.1, e0.2, cells_ints, List.getElem?_eq_getElem (by omega)] at k0
  rw [e1.1, e1.2, cells_rows, List.getElem?_eq_getElem (by omega)] at k1
  rw [e2.1, e2.2, show Try.prog.cellsOf 24 = 1 by kernel_rfl, List.getElem?_eq_getElem (by omega)] at k2
  obtain ⟨o, ho⟩ := open_i64s k0
  obtain ⟨q, hq⟩ := open_rows2 k1
  obtain ⟨r, hr⟩ := open_rows3 k2
  exact ⟨⟨o, q, r⟩, c0, c1, c2, rfl, ⟨ho, hq, hr⟩⟩
end

end Go.Proofs.Ytbfbpjkpoepmkaa
