/-
  Plain: the cyclic extension of a group by a root of an inner automorphism. No program is named here.
-/
import Derived.Test.YtdfjgpioaomceaaMon
namespace Go.Proofs.Ytdfjgpioaomceaa

/-- a group on the members of S -/
structure GrpOn {α : Type} (S : α → Prop) (m : α → α → α) (e : α) : Prop extends MonOn S m e where
  inv : ∀ x, S x → ∃ y, S y ∧ m x y = e ∧ m y x = e

section
variable {α : Type} {S : α → Prop} {m : α → α → α} {e : α}

theorem GrpOn.of_right (M : MonOn S m e) (h : ∀ x, S x → ∃ y, S y ∧ m x y = e) : GrpOn S m e := by
  refine ⟨M, fun x hx => ?_⟩
  obtain ⟨y, hy, h1⟩ := h x hx
  obtain ⟨z, hz, h2⟩ := h y hy
  have : x = z := by
    have h3 : m (m x y) z = m x (m y z) := M.ass x y z hx hy hz
    rw [h1, h2, M.el z hz, M.er x hx] at h3
    exact h3.symm
  exact ⟨y, hy, h1, by rw [this]; exact h2⟩

theorem GrpOn.cancel (G : GrpOn S m e) {a x y : α} (ha : S a) (hx : S x) (hy : S y) (h : m a x = m a y) : x = y := by
  obtain ⟨b, hb, _, h2⟩ := G.inv a ha
  have h3 : m b (m a x) = m b (m a y) := by rw [h]
  rw [← G.ass b a x hb ha hx, ← G.ass b a y hb ha hy, h2, G.el x hx, G.el y hy] at h3
  exact h3

theorem GrpOn.right_left (G : GrpOn S m e) {a b : α} (ha : S a) (hb : S b) (h : m a b = e) : m b a = e := by
  obtain ⟨c, hc, h1, h2⟩ := G.inv a ha
  have : b = c := G.cancel ha hb hc (by rw [h, h1])
  rw [this]; exact h2

/-- b a = x with b the inverse of a: y = a⁻¹ x, as a product -/
theorem GrpOn.solve (G : GrpOn S m e) {a b x y : α} (ha : S a) (hb : S b) (hx : S x) (hy : S y) (hab : m a b = e) : m b x = y ↔ x = m a y := by
  have hba := G.right_left ha hb hab
  constructor
  · intro h; rw [← h, ← G.ass a b x ha hb hx, hab, G.el x hx]
  · intro h; rw [h, ← G.ass b a y hb ha hy, hba, G.el y hy]

/-- the product of pairs -/
def exm (m : α → α → α) (φ : α → α) (w : α) (o : Nat) (p q : Nat × α) : Nat × α :=
  if o ≤ p.1 + q.1 then (p.1 + q.1 - o, m w (m (iter q.1 φ p.2) q.2)) else (p.1 + q.1, m (iter q.1 φ p.2) q.2)

/-- what a cyclic extension needs -/
structure ExtOk (S : α → Prop) (m : α → α → α) (e : α) (φ : α → α) (w : α) (o : Nat) : Prop where
  o2 : 2 ≤ o
  grp : GrpOn S m e
  cl : ∀ x, S x → S (φ x)
  hom : ∀ x y, S x → S y → φ (m x y) = m (φ x) (φ y)
  wS : S w
  wφ : φ w = w
  root : ∀ x, S x → m w (iter o φ x) = m x w

variable {φ : α → α} {w : α} {o : Nat}

theorem ExtOk.icl (E : ExtOk S m e φ w o) (k : Nat) (x : α) (hx : S x) : S (iter k φ x) := iter_inv S φ E.cl k x hx
theorem ExtOk.ihom (E : ExtOk S m e φ w o) (k : Nat) (x y : α) (hx : S x) (hy : S y) : iter k φ (m x y) = m (iter k φ x) (iter k φ y) := by
  induction k with
  | zero => rfl
  | succ k ih => show φ (iter k φ (m x y)) = _; rw [ih]; exact E.hom _ _ (E.icl k x hx) (E.icl k y hy)
theorem ExtOk.iw (E : ExtOk S m e φ w o) (k : Nat) : iter k φ w = w := by
  induction k with
  | zero => rfl
  | succ k ih => show φ (iter k φ w) = w; rw [ih]; exact E.wφ
theorem ExtOk.one (E : ExtOk S m e φ w o) : φ e = e := by
  have h := E.hom e e E.grp.one E.grp.one
  rw [E.grp.el e E.grp.one] at h
  have c := E.cl e E.grp.one
  exact (E.grp.cancel c E.grp.one c (by rw [E.grp.er _ c]; exact h)).symm
theorem ExtOk.ione (E : ExtOk S m e φ w o) (k : Nat) : iter k φ e = e := by
  induction k with
  | zero => rfl
  | succ k ih => show φ (iter k φ e) = e; rw [ih]; exact E.one
/-- drawing w through -/
theorem ExtOk.draw (E : ExtOk S m e φ w o) (k : Nat) (hk : o ≤ k) (x : α) (hx : S x) : m (iter (k - o) φ x) w = m w (iter k φ x) := by
  rw [← E.root _ (E.icl _ x hx), ← iter_add, show o + (k - o) = k by omega]

/-- the pairs' set -/
def ExS (S : α → Prop) (o : Nat) (p : Nat × α) : Prop := p.1 < o ∧ S p.2

theorem ExtOk.exm_cl (E : ExtOk S m e φ w o) (p q : Nat × α) (hp : ExS S o p) (hq : ExS S o q) : ExS S o (exm m φ w o p q) := by
  obtain ⟨a, x⟩ := p
  obtain ⟨b, y⟩ := q
  obtain ⟨ha, hx⟩ := hp
  obtain ⟨hb, hy⟩ := hq
  have c := E.grp.cl _ _ (E.icl b x hx) hy
  simp only at ha hb hx hy
  unfold exm
  simp only
  split
  · exact ⟨by show a + b - o < o; omega, E.grp.cl _ _ E.wS c⟩
  · exact ⟨by show a + b < o; omega, c⟩

theorem ExtOk.exm_ass (E : ExtOk S m e φ w o) (p q r : Nat × α) (hp : ExS S o p) (hq : ExS S o q) (hr : ExS S o r) : exm m φ w o (exm m φ w o p q) r = exm m φ w o p (exm m φ w o q r) := by
  obtain ⟨a, x⟩ := p
  obtain ⟨b, y⟩ := q
  obtain ⟨c, z⟩ := r
  obtain ⟨ha, hx⟩ := hp
  obtain ⟨hb, hy⟩ := hq
  obtain ⟨hc, hz⟩ := hr
  simp only at ha hb hc hx hy hz
  have M := E.grp.toMonOn
  have cw := E.wS
  have c1 := E.icl b x hx
  have c2 := E.icl c _ c1
  have c3 := E.icl c y hy
  have c4 := M.cl _ _ c1 hy
  have c5 := M.cl _ _ c3 hz
  -- the left side's inner part, and the right side's
  have hL : iter c φ (m (iter b φ x) y) = m (iter c φ (iter b φ x)) (iter c φ y) := E.ihom c _ _ c1 hy
  have hLw : iter c φ (m w (m (iter b φ x) y)) = m w (m (iter c φ (iter b φ x)) (iter c φ y)) := by rw [E.ihom c _ _ cw c4, E.iw, hL]
  have hbc : iter (b + c) φ x = iter c φ (iter b φ x) := by rw [Nat.add_comm, iter_add]
  have c6 := M.cl _ _ c2 c3
  have hK : m (m (iter c φ (iter b φ x)) (iter c φ y)) z = m (iter c φ (iter b φ x)) (m (iter c φ y) z) := M.ass _ _ _ c2 c3 hz
  have hKw : m (m w (m (iter c φ (iter b φ x)) (iter c φ y))) z = m w (m (iter c φ (iter b φ x)) (m (iter c φ y) z)) := by rw [M.ass _ _ _ cw c6 hz, hK]
  have hR : o ≤ b + c → m (iter (b + c - o) φ x) (m w (m (iter c φ y) z)) = m w (m (iter c φ (iter b φ x)) (m (iter c φ y) z)) := by
    intro h
    rw [← M.ass _ _ _ (E.icl _ x hx) cw c5, E.draw _ h x hx, hbc, M.ass _ _ _ cw c2 c5]
  unfold exm
  by_cases e1 : o ≤ a + b
  · by_cases d1 : o ≤ b + c
    · simp only [if_pos e1, if_pos d1]
      by_cases e2 : o ≤ a + b - o + c
      · have d2 : o ≤ a + (b + c - o) := by omega
        simp only [if_pos e2, if_pos d2]
        rw [hLw, hKw, hR d1, show a + b - o + c - o = a + (b + c - o) - o by omega]
      · have d2 : ¬ o ≤ a + (b + c - o) := by omega
        simp only [if_neg e2, if_neg d2]
        rw [hLw, hKw, hR d1, show a + b - o + c = a + (b + c - o) by omega]
    · simp only [if_pos e1, if_neg d1]
      have e2 : ¬ o ≤ a + b - o + c := by omega
      have d2 : o ≤ a + (b + c) := by omega
      simp only [if_neg e2, if_pos d2]
      rw [hLw, hKw, hbc, show a + b - o + c = a + (b + c) - o by omega]
  · by_cases d1 : o ≤ b + c
    · simp only [if_neg e1, if_pos d1]
      have e2 : o ≤ a + b + c := by omega
      have d2 : ¬ o ≤ a + (b + c - o) := by omega
      simp only [if_pos e2, if_neg d2]
      rw [hL, hK, hR d1, show a + b + c - o = a + (b + c - o) by omega]
    · simp only [if_neg e1, if_neg d1]
      by_cases e2 : o ≤ a + b + c
      · have d2 : o ≤ a + (b + c) := by omega
        simp only [if_pos e2, if_pos d2]
        rw [hL, hK, hbc, show a + b + c - o = a + (b + c) - o by omega]
      · have d2 : ¬ o ≤ a + (b + c) := by omega
        simp only [if_neg e2, if_neg d2]
        rw [hL, hK, hbc, show a + b + c = a + (b + c) by omega]

/-- the extension is a group -/
theorem ExtOk.group (E : ExtOk S m e φ w o) : GrpOn (ExS S o) (exm m φ w o) (0, e) := by
  have M := E.grp.toMonOn
  have ho := E.o2
  have hM : MonOn (ExS S o) (exm m φ w o) (0, e) := by
    refine ⟨E.exm_cl, ⟨by show 0 < o; omega, M.one⟩, E.exm_ass, ?_, ?_⟩
    · rintro ⟨a, x⟩ ⟨ha, hx⟩
      simp only at ha hx
      unfold exm
      simp only [Nat.zero_add, if_neg (by omega : ¬ o ≤ a), E.ione, M.el x hx]
    · rintro ⟨a, x⟩ ⟨ha, hx⟩
      simp only at ha hx
      unfold exm
      simp only [Nat.add_zero, if_neg (by omega : ¬ o ≤ a)]
      show (a, m x e) = (a, x)
      rw [M.er x hx]
  refine GrpOn.of_right hM ?_
  rintro ⟨a, x⟩ ⟨ha, hx⟩
  simp only at ha hx
  by_cases h0 : a = 0
  · subst h0
    obtain ⟨y, hy, h1, _⟩ := E.grp.inv x hx
    refine ⟨(0, y), ⟨by show 0 < o; omega, hy⟩, ?_⟩
    unfold exm
    simp only [Nat.add_zero, if_neg (by omega : ¬ o ≤ 0)]
    show (0, m x y) = (0, e)
    rw [h1]
  · obtain ⟨y, hy, h1, _⟩ := E.grp.inv _ (M.cl _ _ E.wS (E.icl (o - a) x hx))
    refine ⟨(o - a, y), ⟨by show o - a < o; omega, hy⟩, ?_⟩
    unfold exm
    simp only [if_pos (by omega : o ≤ a + (o - a))]
    rw [← M.ass _ _ _ E.wS (E.icl _ x hx) hy, h1, show a + (o - a) - o = 0 by omega]

/-- a group carried over to another set of names -/
theorem GrpOn.carry {β : Type} {S' : β → Prop} {m' : β → β → β} {e' : β} (G : GrpOn S m e) (f : α → β) (hS : ∀ x, S x → S' (f x)) (hsur : ∀ y, S' y → ∃ x, S x ∧ f x = y) (he : f e = e')
    (hm : ∀ x y, S x → S y → m' (f x) (f y) = f (m x y)) : GrpOn S' m' e' := by
  subst he
  refine ⟨⟨?_, hS e G.one, ?_, ?_, ?_⟩, ?_⟩
  · intro x y hx hy
    obtain ⟨a, ha, rfl⟩ := hsur x hx
    obtain ⟨b, hb, rfl⟩ := hsur y hy
    rw [hm a b ha hb]; exact hS _ (G.cl _ _ ha hb)
  · intro x y z hx hy hz
    obtain ⟨a, ha, rfl⟩ := hsur x hx
    obtain ⟨b, hb, rfl⟩ := hsur y hy
    obtain ⟨c, hc, rfl⟩ := hsur z hz
    rw [hm a b ha hb, hm _ c (G.cl _ _ ha hb) hc, hm b c hb hc, hm a _ ha (G.cl _ _ hb hc), G.ass a b c ha hb hc]
  · intro x hx
    obtain ⟨a, ha, rfl⟩ := hsur x hx
    rw [hm e a G.one ha, G.el a ha]
  · intro x hx
    obtain ⟨a, ha, rfl⟩ := hsur x hx
    rw [hm a e ha G.one, G.er a ha]
  · intro x hx
    obtain ⟨a, ha, rfl⟩ := hsur x hx
    obtain ⟨b, hb, h1, h2⟩ := G.inv a ha
    exact ⟨f b, hS b hb, by rw [hm a b ha hb, h1], by rw [hm b a hb ha, h2]⟩

end
end Go.Proofs.Ytdfjgpioaomceaa
