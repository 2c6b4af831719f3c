/-
  Plain: the cyclic extension of a group by a root of an inner automorphism. No program is named here.
  The reference's multiplication: spec.l08At computes rAt.
  spec.IsPresentation decides the same as impl.IsPresentation.
  The reference's inverse, conjugate and power: spec.l10From, l10Inv, l10Conj, l08Repeat.
  impl.timesGenerator and impl.timesVector compute tgen and tvec in place.
  Lists of lists that a call builds by append: each row in blocks of its own.
  The program's operations on elements: impl.multiply, invert, power, conjugate, imageBy.
  impl.invert, impl.conjugate, impl.imageBy.
  impl.conjugate, impl.imageBy, impl.numberOf, impl.elementAt.
  The reference's power: spec.l08Repeat.
  The program's look at one level of a presentation: impl.levelFault.
-/
import Derived.Test.YtldheeicjnncoaaGreatE1
import Derived.BigRegion
import Derived.Deep.LoopGhost
namespace Go.Proofs.YtldheeicjnncoaaGreat

/-- a group on the members of S -/
structure GrpOn {α : Type} (S : α → Prop) (m : α → α → α) (e : α) : Prop extends MonOn S m e where
  inv : ∀ x, S x → ∃ y, S y ∧ m x y = e ∧ m y x = e

section
variable {α : Type} {S : α → Prop} {m : α → α → α} {e : α}

theorem GrpOn.of_right (M : MonOn S m e) (h : ∀ x, S x → ∃ y, S y ∧ m x y = e) : GrpOn S m e := by
  refine ⟨M, fun x hx => ?_⟩
  obtain ⟨y, hy, h1⟩ := h x hx
  obtain ⟨z, hz, h2⟩ := h y hy
  have : x = z := by
    have h3 : m (m x y) z = m x (m y z) := M.ass x y z hx hy hz
    rw [h1, h2, M.el z hz, M.er x hx] at h3
    exact h3.symm
  exact ⟨y, hy, h1, by rw [this]; exact h2⟩

theorem GrpOn.cancel (G : GrpOn S m e) {a x y : α} (ha : S a) (hx : S x) (hy : S y) (h : m a x = m a y) : x = y := by
  obtain ⟨b, hb, _, h2⟩ := G.inv a ha
  have h3 : m b (m a x) = m b (m a y) := by rw [h]
  rw [← G.ass b a x hb ha hx, ← G.ass b a y hb ha hy, h2, G.el x hx, G.el y hy] at h3
  exact h3

theorem GrpOn.right_left (G : GrpOn S m e) {a b : α} (ha : S a) (hb : S b) (h : m a b = e) : m b a = e := by
  obtain ⟨c, hc, h1, h2⟩ := G.inv a ha
  have : b = c := G.cancel ha hb hc (by rw [h, h1])
  rw [this]; exact h2

/-- b a = x with b the inverse of a: y = a⁻¹ x, as a product -/
theorem GrpOn.solve (G : GrpOn S m e) {a b x y : α} (ha : S a) (hb : S b) (hx : S x) (hy : S y) (hab : m a b = e) : m b x = y ↔ x = m a y := by
  have hba := G.right_left ha hb hab
  constructor
  · intro h; rw [← h, ← G.ass a b x ha hb hx, hab, G.el x hx]
  · intro h; rw [h, ← G.ass b a y hb ha hy, hba, G.el y hy]

/-- the product of pairs -/
def exm (m : α → α → α) (φ : α → α) (w : α) (o : Nat) (p q : Nat × α) : Nat × α :=
  if o ≤ p.1 + q.1 then (p.1 + q.1 - o, m w (m (iter q.1 φ p.2) q.2)) else (p.1 + q.1, m (iter q.1 φ p.2) q.2)

/-- what a cyclic extension needs -/
structure ExtOk (S : α → Prop) (m : α → α → α) (e : α) (φ : α → α) (w : α) (o : Nat) : Prop where
  o2 : 2 ≤ o
  grp : GrpOn S m e
  cl : ∀ x, S x → S (φ x)
  hom : ∀ x y, S x → S y → φ (m x y) = m (φ x) (φ y)
  wS : S w
  wφ : φ w = w
  root : ∀ x, S x → m w (iter o φ x) = m x w

variable {φ : α → α} {w : α} {o : Nat}

theorem ExtOk.icl (E : ExtOk S m e φ w o) (k : Nat) (x : α) (hx : S x) : S (iter k φ x) := iter_inv S φ E.cl k x hx
theorem ExtOk.ihom (E : ExtOk S m e φ w o) (k : Nat) (x y : α) (hx : S x) (hy : S y) : iter k φ (m x y) = m (iter k φ x) (iter k φ y) := by
  induction k with
  | zero => rfl
  | succ k ih => show φ (iter k φ (m x y)) = _; rw [ih]; exact E.hom _ _ (E.icl k x hx) (E.icl k y hy)
theorem ExtOk.iw (E : ExtOk S m e φ w o) (k : Nat) : iter k φ w = w := by
  induction k with
  | zero => rfl
  | succ k ih => show φ (iter k φ w) = w; rw [ih]; exact E.wφ
theorem ExtOk.one (E : ExtOk S m e φ w o) : φ e = e := by
  have h := E.hom e e E.grp.one E.grp.one
  rw [E.grp.el e E.grp.one] at h
  have c := E.cl e E.grp.one
  exact (E.grp.cancel c E.grp.one c (by rw [E.grp.er _ c]; exact h)).symm
theorem ExtOk.ione (E : ExtOk S m e φ w o) (k : Nat) : iter k φ e = e := by
  induction k with
  | zero => rfl
  | succ k ih => show φ (iter k φ e) = e; rw [ih]; exact E.one
/-- drawing w through -/
theorem ExtOk.draw (E : ExtOk S m e φ w o) (k : Nat) (hk : o ≤ k) (x : α) (hx : S x) : m (iter (k - o) φ x) w = m w (iter k φ x) := by
  rw [← E.root _ (E.icl _ x hx), ← iter_add, show o + (k - o) = k by omega]

/-- the pairs' set -/
def ExS (S : α → Prop) (o : Nat) (p : Nat × α) : Prop := p.1 < o ∧ S p.2

theorem ExtOk.exm_cl (E : ExtOk S m e φ w o) (p q : Nat × α) (hp : ExS S o p) (hq : ExS S o q) : ExS S o (exm m φ w o p q) := by
  obtain ⟨a, x⟩ := p
  obtain ⟨b, y⟩ := q
  obtain ⟨ha, hx⟩ := hp
  obtain ⟨hb, hy⟩ := hq
  have c := E.grp.cl _ _ (E.icl b x hx) hy
  simp only at ha hb hx hy
  unfold exm
  simp only
  split
  · exact ⟨by show a + b - o < o; omega, E.grp.cl _ _ E.wS c⟩
  · exact ⟨by show a + b < o; omega, c⟩

theorem ExtOk.exm_ass (E : ExtOk S m e φ w o) (p q r : Nat × α) (hp : ExS S o p) (hq : ExS S o q) (hr : ExS S o r) : exm m φ w o (exm m φ w o p q) r = exm m φ w o p (exm m φ w o q r) := by
  obtain ⟨a, x⟩ := p
  obtain ⟨b, y⟩ := q
  obtain ⟨c, z⟩ := r
  obtain ⟨ha, hx⟩ := hp
  obtain ⟨hb, hy⟩ := hq
  obtain ⟨hc, hz⟩ := hr
  simp only at ha hb hc hx hy hz
  have M := E.grp.toMonOn
  have cw := E.wS
  have c1 := E.icl b x hx
  have c2 := E.icl c _ c1
  have c3 := E.icl c y hy
  have c4 := M.cl _ _ c1 hy
  have c5 := M.cl _ _ c3 hz
  -- the left side's inner part, and the right side's
  have hL : iter c φ (m (iter b φ x) y) = m (iter c φ (iter b φ x)) (iter c φ y) := E.ihom c _ _ c1 hy
  have hLw : iter c φ (m w (m (iter b φ x) y)) = m w (m (iter c φ (iter b φ x)) (iter c φ y)) := by rw [E.ihom c _ _ cw c4, E.iw, hL]
  have hbc : iter (b + c) φ x = iter c φ (iter b φ x) := by rw [Nat.add_comm, iter_add]
  have c6 := M.cl _ _ c2 c3
  have hK : m (m (iter c φ (iter b φ x)) (iter c φ y)) z = m (iter c φ (iter b φ x)) (m (iter c φ y) z) := M.ass _ _ _ c2 c3 hz
  have hKw : m (m w (m (iter c φ (iter b φ x)) (iter c φ y))) z = m w (m (iter c φ (iter b φ x)) (m (iter c φ y) z)) := by rw [M.ass _ _ _ cw c6 hz, hK]
  have hR : o ≤ b + c → m (iter (b + c - o) φ x) (m w (m (iter c φ y) z)) = m w (m (iter c φ (iter b φ x)) (m (iter c φ y) z)) := by
    intro h
    rw [← M.ass _ _ _ (E.icl _ x hx) cw c5, E.draw _ h x hx, hbc, M.ass _ _ _ cw c2 c5]
  unfold exm
  by_cases e1 : o ≤ a + b
  · by_cases d1 : o ≤ b + c
    · simp only [if_pos e1, if_pos d1]
      by_cases e2 : o ≤ a + b - o + c
      · have d2 : o ≤ a + (b + c - o) := by omega
        simp only [if_pos e2, if_pos d2]
        rw [hLw, hKw, hR d1, show a + b - o + c - o = a + (b + c - o) - o by omega]
      · have d2 : ¬ o ≤ a + (b + c - o) := by omega
        simp only [if_neg e2, if_neg d2]
        rw [hLw, hKw, hR d1, show a + b - o + c = a + (b + c - o) by omega]
    · simp only [if_pos e1, if_neg d1]
      have e2 : ¬ o ≤ a + b - o + c := by omega
      have d2 : o ≤ a + (b + c) := by omega
      simp only [if_neg e2, if_pos d2]
      rw [hLw, hKw, hbc, show a + b - o + c = a + (b + c) - o by omega]
  · by_cases d1 : o ≤ b + c
    · simp only [if_neg e1, if_pos d1]
      have e2 : o ≤ a + b + c := by omega
      have d2 : ¬ o ≤ a + (b + c - o) := by omega
      simp only [if_pos e2, if_neg d2]
      rw [hL, hK, hR d1, show a + b + c - o = a + (b + c - o) by omega]
    · simp only [if_neg e1, if_neg d1]
      by_cases e2 : o ≤ a + b + c
      · have d2 : o ≤ a + (b + c) := by omega
        simp only [if_pos e2, if_pos d2]
        rw [hL, hK, hbc, show a + b + c - o = a + (b + c) - o by omega]
      · have d2 : ¬ o ≤ a + (b + c) := by omega
        simp only [if_neg e2, if_neg d2]
        rw [hL, hK, hbc, show a + b + c = a + (b + c) by omega]

/-- the extension is a group -/
theorem ExtOk.group (E : ExtOk S m e φ w o) : GrpOn (ExS S o) (exm m φ w o) (0, e) := by
  have M := E.grp.toMonOn
  have ho := E.o2
  have hM : MonOn (ExS S o) (exm m φ w o) (0, e) := by
    refine ⟨E.exm_cl, ⟨by show 0 < o; omega, M.one⟩, E.exm_ass, ?_, ?_⟩
    · rintro ⟨a, x⟩ ⟨ha, hx⟩
      simp only at ha hx
      unfold exm
      simp only [Nat.zero_add, if_neg (by omega : ¬ o ≤ a), E.ione, M.el x hx]
    · rintro ⟨a, x⟩ ⟨ha, hx⟩
      simp only at ha hx
      unfold exm
      simp only [Nat.add_zero, if_neg (by omega : ¬ o ≤ a)]
      show (a, m x e) = (a, x)
      rw [M.er x hx]
  refine GrpOn.of_right hM ?_
  rintro ⟨a, x⟩ ⟨ha, hx⟩
  simp only at ha hx
  by_cases h0 : a = 0
  · subst h0
    obtain ⟨y, hy, h1, _⟩ := E.grp.inv x hx
    refine ⟨(0, y), ⟨by show 0 < o; omega, hy⟩, ?_⟩
    unfold exm
    simp only [Nat.add_zero, if_neg (by omega : ¬ o ≤ 0)]
    show (0, m x y) = (0, e)
    rw [h1]
  · obtain ⟨y, hy, h1, _⟩ := E.grp.inv _ (M.cl _ _ E.wS (E.icl (o - a) x hx))
    refine ⟨(o - a, y), ⟨by show o - a < o; omega, hy⟩, ?_⟩
    unfold exm
    simp only [if_pos (by omega : o ≤ a + (o - a))]
    rw [← M.ass _ _ _ E.wS (E.icl _ x hx) hy, h1, show a + (o - a) - o = 0 by omega]

/-- a group carried over to another set of names -/
theorem GrpOn.carry {β : Type} {S' : β → Prop} {m' : β → β → β} {e' : β} (G : GrpOn S m e) (f : α → β) (hS : ∀ x, S x → S' (f x)) (hsur : ∀ y, S' y → ∃ x, S x ∧ f x = y) (he : f e = e')
    (hm : ∀ x y, S x → S y → m' (f x) (f y) = f (m x y)) : GrpOn S' m' e' := by
  subst he
  refine ⟨⟨?_, hS e G.one, ?_, ?_, ?_⟩, ?_⟩
  · intro x y hx hy
    obtain ⟨a, ha, rfl⟩ := hsur x hx
    obtain ⟨b, hb, rfl⟩ := hsur y hy
    rw [hm a b ha hb]; exact hS _ (G.cl _ _ ha hb)
  · intro x y z hx hy hz
    obtain ⟨a, ha, rfl⟩ := hsur x hx
    obtain ⟨b, hb, rfl⟩ := hsur y hy
    obtain ⟨c, hc, rfl⟩ := hsur z hz
    rw [hm a b ha hb, hm _ c (G.cl _ _ ha hb) hc, hm b c hb hc, hm a _ ha (G.cl _ _ hb hc), G.ass a b c ha hb hc]
  · intro x hx
    obtain ⟨a, ha, rfl⟩ := hsur x hx
    rw [hm e a G.one ha, G.el a ha]
  · intro x hx
    obtain ⟨a, ha, rfl⟩ := hsur x hx
    rw [hm a e ha G.one, G.er a ha]
  · intro x hx
    obtain ⟨a, ha, rfl⟩ := hsur x hx
    obtain ⟨b, hb, h1, h2⟩ := G.inv a ha
    exact ⟨f b, hS b hb, by rw [hm a b ha hb, h1], by rw [hm b a hb ha, h2]⟩

end
end Go.Proofs.YtldheeicjnncoaaGreat
namespace Go.Proofs.YtldheeicjnncoaaGreat
open Go.RowKit

set_option maxHeartbeats 2000000 in
theorem l08At_zero (P : Pr) (hP : Valid P) : AtOk P 0 := by
  intro w pv a b i A B Sp Sa Sb hi hp ha hb hA hB
  obtain ⟨vo, vp, vc, rfl, h3⟩ := hp
  have hn6 := hP.n6
  have hBx := PresP.box h3 28
  obtain ⟨ao, capo, hco, hoi⟩ := hBx.ordAt
  have hi2 : (i : Int) = P.orders.length := by omega
  have hi3 : ((P.orders.length : Int) ≤ (i : Int)) := by omega
  have HI := Lib.hid hi2; clear hi2
  go_enter Tryz.func346, Tryz.ntmps346
  go_wp2_with (at_make; refine wp_make_ints rfl _ _ rfl (w.heap.size + 1) P.orders.length (w.heap.size + 1) (by simp) _ rfl rfl rfl (by omega) (by simp) ?_; intro w1 ho1 hg1 _)
  go_ret
  exact ⟨_, rfl, grown_trans (World.grownBy_alloc _ _ _) hg1, ho1.weak (by omega)⟩

set_option maxHeartbeats 4000000 in
theorem l08At_succ (P : Pr) (hP : Valid P) (f : Nat) (ih : AtOk P f) : AtOk P (f + 1) := by
  intro w pv a b i A B Sp Sa Sb hi hp ha hb hA hB
  obtain ⟨vo, vp, vc, rfl, h3⟩ := hp
  have hn6 := hP.n6
  have hBx := PresP.box h3 28
  have ha0 := ha.ext (World.grownBy_alloc w (.cells #[vo, vp, vc] 28) none)
  have hb0 := hb.ext (World.grownBy_alloc w (.cells #[vo, vp, vc] 28) none)
  have hlA : A.length ≤ P.orders.length ∧ P.orders.length ≤ A.length := by rw [hA.1]; omega
  have hlB : B.length ≤ P.orders.length ∧ P.orders.length ≤ B.length := by rw [hB.1]; omega
  have hg0 : Ext w (w.alloc (.cells #[vo, vp, vc] 28)) := World.grownBy_alloc _ _ _
  have hs0 : (w.alloc (.cells #[vo, vp, vc] 28)).heap.size = w.heap.size + 1 := by simp
  have HS := Lib.hid hs0; clear hs0
  clear ha hb
  go_enter Tryz.func346, Tryz.ntmps346
  obtain ⟨ao, capo, hco, hoi⟩ := hBx.ordAt
  go_wp2_with fail
  clear hco hoi
  generalize hw0 : w.alloc (.cells #[vo, vp, vc] 28) = w0 at *
  clear hw0
  refine Calls.mono (l01Own_ok w0 a A Sa ha0 (by omega)) ?_
  rintro e1 w1 ⟨L, rfl, hg1, hL⟩
  go_wp2_with fail
  refine Calls.mono (l01Own_ok w1 b B Sb (hb0.ext hg1) (by omega)) ?_
  rintro e2 w2 ⟨R, rfl, hg2, hR⟩
  have hL2 := hL.ext0 hg2
  obtain ⟨gl, capl, rfl, hbl, hsl⟩ := hL.form (by omega)
  obtain ⟨gr, capr, rfl, hbr, hsr⟩ := hR.form (by omega)
  have hne : gl ≠ gr := by omega
  have c1 := hL2.cell i (by omega)
  have f1 := hL2.frozen i
  obtain ⟨hL3, hg3⟩ := hL2.store i 0
  have hR3 := hR.ext hg3 (.inr (by intro h; cases h; exact hne rfl))
  have c2 := hR3.cell i (by omega)
  have f2 := hR3.frozen i
  obtain ⟨hR4, hg4⟩ := hR3.store i 0
  have hL4 := hL3.ext hg4 (.inr (by intro h; cases h; exact hne rfl))
  have hg4w : Ext w0 ((w2.setCell ⟨gl, i, none⟩ (.int .i64 0)).setCell ⟨gr, i, none⟩ (.int .i64 0)) :=
    grown_own (grown_own (grown_trans hg1 hg2) hg3 (fun j hj hlt => by cases hj; omega)) hg4 (fun j hj hlt => by cases hj; have := hg1.size; omega)
  have hA1 := hA.set i 0 ⟨by omega, fun _ => by have := hP.ord7 i (by omega); omega⟩
  have hB1 := hB.set i 0 ⟨by omega, fun _ => by have := hP.ord7 i (by omega); omega⟩
  have hs1 := hg1.size
  have hs2 := hg2.size
  have hAi := hA.2 i (by omega)
  have hBi := hB.2 i (by omega)
  have hoi := hP.ord7 i (by omega)
  have hAi0 : 0 ≤ gt A i := hAi.1
  have hBi0 : 0 ≤ gt B i := hBi.1
  have hoi0 : 2 ≤ gt P.orders i := hoi.1
  have hAi1 : gt A i < gt P.orders i := hAi.2
  have hBi1 : gt B i < gt P.orders i := hBi.2
  have hoi1 : gt P.orders i ≤ 7 := hoi.2
  clear hAi hBi hoi
  go_wp2
  clear c1 f1 c2 f2 hL2 hL3 hR3 hL hR
  generalize hw4 : (w2.setCell ⟨gl, i, none⟩ (.int .i64 0)).setCell ⟨gr, i, none⟩ (.int .i64 0) = w4 at *
  clear hw4 hg3 hg4
  obtain ⟨ab, capb, rfl, _, _⟩ := hb0.shape
  obtain ⟨aa, capa, rfl, _, _⟩ := ha0.shape
  go_loopw [10, 12] (fun v mm wr => ∃ m : Nat, mm = .int .i64 m ∧ m ≤ (gt B i).toNat ∧ Ext w4 wr ∧
      Own (w.heap.size + 1) wr v (iter m (fun l => rImage P f i l) (A.set i 0))) (fun _ mm _ => (gt B i).toNat - (intOf mm).toNat)
  case atStart => exact ⟨0, rfl, by omega, Ext.refl _, hL4.weak (by have := HS.out; omega)⟩
  case round =>
    obtain ⟨m, rfl, hm, hg, hO⟩ := hrel
    have hgr : Ext w0 wr := grown_trans hg4w hg
    obtain ⟨bb, ob, rfl, _, _, hcb⟩ := Ints.at (hb0.ext hgr) i (by omega)
    have hvm : Vec P.orders (iter m (fun l => rImage P f i l) (A.set i 0)) := iter_inv (Vec P.orders) _ (fun y hy => rImgTo_vec hP f i hi (rAt_vec hP f) _ _ (zeros_vec hP) f (Nat.le_refl _)) _ _ hA1
    have HV := Lib.hid hvm
    have hOi := hO.ints (by rw [hvm.1]; omega)
    clear hvm
    obtain ⟨vo9, vp9, vc9, _, _, hc0, hc1, hc2, h39⟩ := (hBx.ext hgr).at
    by_cases hlt2 : (m : Int) < gt B i
    · go_wp2_with fail
      refine Calls.mono (l08Image_of P hP f ih wr _ _ i _ Any Any hi ⟨_, _, _, rfl, h39⟩ hOi HV.out) ?_
      rintro e5 w5 ⟨v5, rfl, hg5, hO5⟩
      go_wp2
      go_roundw
      case rel => exact ⟨m + 1, by go_num, by omega, grown_trans hg hg5, hO5.weak (by have := hgr.size; have := HS.out; omega)⟩
      case measure => simp [intOf]; omega
    · have hme : m = (gt B i).toNat := by omega
      subst hme
      have hR5 := hR4.ext0 hg
      generalize hleft : iter (gt B i).toNat (fun l => rImage P f i l) (A.set i 0) = left at *
      have HL := Lib.hid hleft; clear hleft
      go_wp2_with fail
      refine Calls.mono (ih wr _ _ _ (i + 1) left (B.set i 0) Any Any Any (by omega) ⟨_, _, _, rfl, h39⟩ hOi (hR5.ints (by simp; omega)) HV.out hB1) ?_
      rintro e6 w6 ⟨rest, rfl, hg6, hr6⟩
      have hgr6 : Ext w0 w6 := grown_trans hgr hg6
      obtain ⟨ba, oa, rfl, _, _, hca⟩ := Ints.at (ha0.ext hgr6) i (by omega)
      have hcb6 : w6.cell? ⟨bb, ob + i, none⟩ = some (.int .i64 (gt B i)) := hg6.cell hcb (by simp)
      have hvr := rAt_vec hP f (i + 1) _ _ (by omega) HV.out hB1
      have HVr := Lib.hid hvr; clear hvr
      clear hc0 hc1 hc2 hcb hOi hO h39 hR5 hR4 hL4 hlt2 hm
      generalize hrest : rAt P f (i + 1) left (B.set i 0) = rst at *
      have HRst := Lib.hid hrest; clear hrest
      have hil : i < A.length := by omega
      have hil2 : i < B.length := by omega
      have s1 : IntKind.i64.wrap (gt A i + gt B i) = gt A i + gt B i := IntWalk.i64_in _ (by omega)
      go_wp2
      go_quiet (fail)
      clear s1 hca hcb6
      have hfin : rAt P (f + 1) i A B = if gt P.orders i ≤ gt A i + gt B i then (rAt P f (i + 1) (gt P.powers i) rst).set i (gt A i + gt B i - gt P.orders i) else rst.set i (gt A i + gt B i) := by
        rw [← HRst.out, ← HL.out]; rfl
      have HF := Lib.hid hfin; clear hfin
      rename_i nq _
      have hgr7 : Ext w0 (w6.drewN nq) := grown_trans hgr6 (grown_drewN _ _ _)
      have hr7 : Own wr.heap.size (w6.drewN nq) rest rst := hr6
      have hri := hr7.ints (by rw [HVr.out.1]; omega)
      have hbp := hBx.ext hgr7
      obtain ⟨ao7, capo7, hco, hoi⟩ := hbp.ordAt
      obtain ⟨bo, oo, rfl, _, _, hcoi⟩ := Ints.at hoi i (by omega)
      obtain ⟨ap, capp, hcp, hpr⟩ := hbp.powAt
      obtain ⟨bp, op, ap2, capp2, rfl, _, _, hcpi, hpi⟩ := Rows2.at hpr i (by rw [hP.pl]; omega)
      have hjp : i < P.powers.length := by rw [hP.pl]; omega
      have hwsz : wr.heap.size ≤ (w6.drewN nq).heap.size := hg6.size
      clear hr6 hgr6 hbp hoi hpr
      generalize w6.drewN nq = w7 at *
      by_cases hc : gt P.orders i ≤ gt A i + gt B i
      case' pos =>
        have HF2 := Lib.hid (HF.out.trans (if_pos hc)); clear HF
        obtain ⟨vo9, vp9, vc9, _, _, hc0, hc1, hc2, h39⟩ := (hBx.ext hgr7).at
        have s3 : IntKind.i64.wrap ((i : Int) + 1) = (i : Int) + 1 := IntWalk.i64_in _ (by omega)
        have s4 : IntKind.i64.wrap (gt A i + gt B i - gt P.orders i) = gt A i + gt B i - gt P.orders i := IntWalk.i64_in _ (by omega)
        have e1 : ∀ w', Ext w7 w' → w'.cell? ⟨w.heap.size, 0, none⟩ = some vo9 := fun w' h => h.cell hc0 (by simp)
        have e2 : ∀ w', Ext w7 w' → w'.cell? ⟨w.heap.size, 1, none⟩ = some (.slice (some ⟨bp, op, none⟩) P.powers.length capp) := fun w' h => h.cell (by simpa using hcp) (by simp)
        have e3 : ∀ w', Ext w7 w' → w'.cell? ⟨w.heap.size, 2, none⟩ = some vc9 := fun w' h => h.cell (by simpa using hc2) (by simp)
        have e4 : ∀ w', Ext w7 w' → w'.cell? ⟨bp, op + i, none⟩ = some (.slice ap2 (gt P.powers i).length capp2) := fun w' h => h.cell hcpi (by simp)
        have evp : vp9 = .slice (some ⟨bp, op, none⟩) P.powers.length capp := by
          have := hc1.symm.trans hcp; simpa using this
        subst evp
        have b3 : (i : Int) < P.powers.length := by omega
        have hpv := (hP.pv i (by omega)).1
        have HPV := Lib.hid hpv; clear hpv
        clear hc2 hc1 hcp
        go_wp2
        clear hco hcoi hcpi
        go_region_held3 (fun w' => Ext w7 w') (first | exact grown_drew _ _ | exact hg8)
            (first | (go_at_call 346; refine Calls.mono (Calls.rel (w0 := w7) (by assumption) (ih _ _ _ _ (i + 1) (gt P.powers i) rst Any Any Any (by omega) ⟨_, _, _, rfl, Pres3.ext h39 (by assumption)⟩ (Ints.ext hpi (by assumption)) (Ints.ext hri (by assumption)) HPV.out HVr.out)) ?_; rintro e8 w8 ⟨v8, rfl, hg8, hsz8, hO8⟩))
        have hvp := rAt_vec hP f (i + 1) _ _ (by omega) HPV.out HVr.out
        have hlp : (rAt P f (i + 1) (gt P.powers i) rst).length = P.orders.length := hvp.1
        clear e1 e2 e3 e4 s3 s4 hvp
        go_wp2_with fail
        refine Calls.mono (l01Own_ok w8 v8 (rAt P f (i + 1) (gt P.powers i) rst) Any (hO8.ints (by omega)) (by omega)) ?_
        have hw8 : w0.heap.size ≤ w8.heap.size := by have := hgr7.size; have := hg8.size; omega
        have hgr8 : Ext w0 w8 := grown_trans hgr7 hg8
        generalize rAt P f (i + 1) (gt P.powers i) rst = fin at *
        generalize hcc : gt A i + gt B i - gt P.orders i = cc at *
      case' neg =>
        have HF2 := Lib.hid (HF.out.trans (if_neg hc)); clear HF
        have hlp : rst.length = P.orders.length := HVr.out.1
        go_wp2_with fail
        refine Calls.mono (l01Own_ok w7 rest rst Any hri (by omega)) ?_
        have hgr8 : Ext w0 w7 := hgr7
        generalize hcc : gt A i + gt B i = cc at *
        clear hri hr7 HVr HRst
        generalize rst = fin at *
      all_goals
        have HCC := Lib.hid hcc; clear hcc
        have hlp2 : fin.length ≤ P.orders.length ∧ P.orders.length ≤ fin.length := by omega
        clear hlp
        rintro e9 w9 ⟨v9, rfl, hg9, hO9⟩
        obtain ⟨g9, cap9, rfl, hb9, hs9⟩ := hO9.form (by omega)
        have c9 := hO9.cell i (by omega)
        have f9 := hO9.frozen i
        obtain ⟨hO10, hg10⟩ := hO9.store i cc
        have hfl : i < fin.length := by omega
        go_wp2
        go_ret
        refine ⟨_, rfl, ?_, ?_⟩
        · exact grown_trans hg0 (grown_own (grown_trans hgr8 hg9) hg10 (fun j hj hlt => by cases hj; have := hgr8.size; omega))
        · rw [HF2.out]; exact hO10.weak (by have := hgr8.size; have := HS.out; omega)

theorem l08At_ok (P : Pr) (hP : Valid P) (f : Nat) : AtOk P f := by
  induction f with
  | zero => exact l08At_zero P hP
  | succ f ih => exact l08At_succ P hP f ih

/-- the reference's product -/
def rMul (P : Pr) (A B : List Int) : List Int := rAt P P.orders.length 0 A B

end Go.Proofs.YtldheeicjnncoaaGreat
namespace Go.Proofs.YtldheeicjnncoaaGreat
open Go.RowKit

set_option maxHeartbeats 4000000 in
theorem sIsPresentation_ok (w : World) (pv : Value) (P : Pr) (S : Nat → Prop) (hp : PresV S w pv P) :
    Calls Tryz.prog 196 #[pv] w (Ret w fun _ v => v = .bool (validB P)) := by
  obtain ⟨vo, vp, vc, rfl, h3⟩ := hp
  have hBx := PresP.box h3 28
  have hg0 : Ext w (w.alloc (.cells #[vo, vp, vc] 28)) := World.grownBy_alloc _ _ _
  go_enter Tryz.func196, Tryz.ntmps196
  obtain ⟨ao, capo, hco, hoi⟩ := hBx.ordAt
  obtain ⟨ap, capp, hcp, hpi⟩ := hBx.powAt
  obtain ⟨ac, capc, hcc, hci⟩ := hBx.conjAt
  by_cases h6 : P.orders.length ≤ 6
  rotate_left
  · have hd : decide ((6 : Int) < (P.orders.length : Int)) = true := by simp; omega
    go_wp2
    go_ret
    exact ret_bool hg0 (validB_false (fun h => h6 h.n6)).symm
  have hd6 : decide ((6 : Int) < (P.orders.length : Int)) = false := by simp; omega
  by_cases hpl : P.powers.length = P.orders.length
  rotate_left
  · have hd : ((P.powers.length : Int) != (P.orders.length : Int)) = true := by simp; omega
    have HP := Lib.hid hpl; clear hpl
    go_wp2
    go_ret
    exact ret_bool hg0 (validB_false (fun h => HP.out h.pl)).symm
  have hdp : ((P.powers.length : Int) != (P.orders.length : Int)) = false := by simp [hpl]
  by_cases hcl : P.conj.length = P.orders.length
  rotate_left
  · have hd : ((P.conj.length : Int) != (P.orders.length : Int)) = true := by simp; omega
    have HP := Lib.hid hpl; clear hpl
    have HC := Lib.hid hcl; clear hcl
    go_wp2
    go_ret
    exact ret_bool hg0 (validB_false (fun h => HC.out h.cl)).symm
  have hdc : ((P.conj.length : Int) != (P.orders.length : Int)) = false := by simp [hcl]
  have hpl2 : P.powers.length ≤ P.orders.length ∧ P.orders.length ≤ P.powers.length := by omega
  have hcl2 : P.conj.length ≤ P.orders.length ∧ P.orders.length ≤ P.conj.length := by omega
  have HP := Lib.hid hpl; clear hpl
  have HC := Lib.hid hcl; clear hcl
  go_wp2
  clear hd6 hdp hdc
  generalize hw0 : w.alloc (.cells #[vo, vp, vc] 28) = w0 at *
  clear hw0
  go_loop [4] (fun i => ∃ k : Nat, i = .int .i64 k ∧ k ≤ P.orders.length ∧ ∀ i, i < k → primeB (gt P.orders i) = true) (fun i => P.orders.length - (intOf i).toNat)
  case atStart => exact ⟨0, rfl, by omega, fun i hi => by omega⟩
  case round =>
    obtain ⟨k, rfl, hk, hz⟩ := hrel
    have HZ := Lib.hid hz; clear hz
    by_cases hlt : k < P.orders.length
    · obtain ⟨b, off, rfl, _, _, hc⟩ := Ints.at hoi k hlt
      cases hx : primeB (gt P.orders k) with
      | false =>
        have HX := Lib.hid hx
        go_wp2_with (go_at_call 265; refine (l01Prime_ok _ _).mono ?_; rintro e1 w1 ⟨rfl, rfl⟩)
        go_ret
        exact ret_bool hg0 (validB_false (fun h => by have := primeB_true.2 (h.ord k hlt); rw [HX.out] at this; cases this)).symm
      | true =>
        have HX := Lib.hid hx
        go_wp2_with (go_at_call 265; refine (l01Prime_ok _ _).mono ?_; rintro e1 w1 ⟨rfl, rfl⟩)
        go_round
        case rel => exact ⟨k + 1, by go_num, by omega, fun i hi => by
            rcases Nat.lt_or_ge i k with h1 | h1
            · exact HZ.out i h1
            · have : i = k := by omega
              rw [this]; exact HX.out⟩
        case measure => simp [intOf]; omega
    · have hke : k = P.orders.length := by omega
      subst hke
      have hord : ∀ i, i < P.orders.length → 1 ≤ gt P.orders i ∧ gt P.orders i ≤ 7 := fun i hi => by have := primeB_true.1 (HZ.out i hi); omega
      have HO := Lib.hid hord; clear hord
      have hcap := capTo_le (l := P.orders) P.orders.length (fun i hi => (HO.out i hi).1)
      have HCP := Lib.hid hcap; clear hcap
      by_cases h729 : capTo P.orders P.orders.length ≤ 729
      rotate_left
      · have hd : decide ((729 : Int) < capTo P.orders P.orders.length) = true := by simp; omega
        go_wp2_with (go_at_call 197; refine (l07Product_ok _ _ P.orders Any hoi HO.out).mono ?_; rintro e1 w1 ⟨rfl, rfl⟩)
        go_ret
        exact ret_bool hg0 (validB_false (fun h => by have := HCP.out.1.2 h.le729; omega)).symm
      have hd : decide ((729 : Int) < capTo P.orders P.orders.length) = false := by simp; omega
      go_wp2_with (go_at_call 197; refine (l07Product_ok _ _ P.orders Any hoi HO.out).mono ?_; rintro e1 w1 ⟨rfl, rfl⟩)
      have HLE := Lib.hid (HCP.out.1.1 h729)
      have hord0 : ∀ i, i < P.orders.length → 0 ≤ gt P.orders i ∧ gt P.orders i ≤ 7 := fun i hi => by have := HO.out i hi; omega
      have HO0 := Lib.hid hord0; clear hord0
      clear hcc hcp hco hd h729 HO HCP
      go_loopw [5] (fun i wr => ∃ k : Nat, i = .int .i64 k ∧ k ≤ P.orders.length ∧ Dr w0 wr ∧ ∀ i, i < k → tailB P.orders i (gt P.powers i) = true ∧ (gt P.conj i).length = P.orders.length - 1 - i ∧ ∀ j, j < P.orders.length - 1 - i → tailB P.orders i (gt (gt P.conj i) j) = true) (fun i _ => P.orders.length - (intOf i).toNat)
      case atStart => exact ⟨0, rfl, by omega, Dr.refl _, fun i hi => by omega⟩
      case round =>
        obtain ⟨k, rfl, hk, hdr, hz⟩ := hrel
        have HZ2 := Lib.hid hz; clear hz
        have hgr : Ext w wr := grown_trans hg0 hdr.ext
        by_cases hlt : k < P.orders.length
        · obtain ⟨ao5, capo5, hco, hoi5⟩ := (hBx.ext hdr.ext).ordAt
          obtain ⟨ap, capp, hcp, hpi⟩ := (hBx.ext hdr.ext).powAt
          obtain ⟨ac, capc, hcc, hci⟩ := (hBx.ext hdr.ext).conjAt
          obtain ⟨b1, o1, a2, cap2, rfl, _, _, hc2, hi2⟩ := Rows2.at hpi k (by omega)
          obtain ⟨b3, o3, a4, cap4, rfl, _, _, hc4, hi4⟩ := Rows3.at hci k (by omega)
          have hbad1 : expZB P.orders (gt P.powers k) k = false → validB P = false := fun hx => validB_false (fun h => by have := expZB_vec.2 (h.pv k hlt); rw [hx] at this; cases this)
          have hbad2 : ¬ (gt P.conj k).length = P.orders.length - 1 - k → validB P = false := fun hx => validB_false (fun h => hx (h.cv k hlt).1)
          have hbad3 : ∀ j, j < P.orders.length - 1 - k → expZB P.orders (gt (gt P.conj k) j) k = false → validB P = false := fun j hj hx => validB_false (fun h => by have := expZB_vec.2 ((h.cv k hlt).2 j hj); rw [hx] at this; cases this)
          have HB1 := Lib.hid hbad1; have HB2 := Lib.hid hbad2; have HB3 := Lib.hid hbad3; clear hbad1 hbad2 hbad3
          have b5 : (0 : Int) ≤ k := by omega
          have b6 : (k : Int) < P.powers.length := by omega
          have b7 : (k : Int) < P.conj.length := by omega
          have s1 : IntKind.i64.wrap ((P.orders.length : Int) - 1) = (P.orders.length : Int) - 1 := IntWalk.i64_in _ (by omega)
          have s2 : IntKind.i64.wrap ((P.orders.length : Int) - 1 - k) = (P.orders.length : Int) - 1 - k := IntWalk.i64_in _ (by omega)
          cases hx : expZB P.orders (gt P.powers k) k with
          | false =>
            have HX := Lib.hid hx
            go_wp2
            go_quiet ((go_at_call 283; exact quiet_rd (l07Exponents_ok _ _ _ P.orders (gt P.powers k) k Any Any (hoi5.ext (grown_drewN _ _ _)) (hi2.ext (grown_drewN _ _ _)) HO0.out)))
            go_wp2
            go_ret
            exact ret_bool (grown_trans hgr (grown_drewN _ _ _)) (HB1.out HX.out).symm
          | true =>
            have HX := Lib.hid hx
            by_cases hlen : (gt P.conj k).length = P.orders.length - 1 - k
            · have hd : (((gt P.conj k).length : Int) != (P.orders.length : Int) - 1 - k) = false := by simp; omega
              have hl2 : (gt P.conj k).length ≤ P.orders.length - 1 - k ∧ P.orders.length - 1 - k ≤ (gt P.conj k).length := by omega
              have HLN := Lib.hid hlen; clear hlen
              go_wp2
              go_quiet ((go_at_call 283; exact quiet_rd (l07Exponents_ok _ _ _ P.orders (gt P.powers k) k Any Any (hoi5.ext (grown_drewN _ _ _)) (hi2.ext (grown_drewN _ _ _)) HO0.out)))
              rename_i nq _
              have hdr2 := hdr.step nq
              clear hd hx hcp hc2 s1 s2 b6
              have hci9 : Rows3 Any (wr.drewN nq) (.slice (some ⟨b3, o3, none⟩) P.conj.length capc) P.conj := hci
              go_wp2
              go_loopw [6] (fun i wr => ∃ j : Nat, i = .int .i64 j ∧ j ≤ (gt P.conj k).length ∧ Dr w0 wr ∧ ∀ i, i < j → expZB P.orders (gt (gt P.conj k) i) k = true) (fun i _ => (gt P.conj k).length - (intOf i).toNat)
              case atStart => exact ⟨0, rfl, by omega, hdr2, fun i hi => by omega⟩
              case round =>
                clear hcc hc4 hi4 hi2 hci hpi hci9 hoi5
                obtain ⟨j, rfl, hj, hdr3, hz⟩ := hrel
                have HZ3 := Lib.hid hz; clear hz
                have hgr3 : Ext w wr := grown_trans hg0 hdr3.ext
                obtain ⟨ao7, capo7, hco, hoi7⟩ := (hBx.ext hdr3.ext).ordAt
                obtain ⟨ac7, capc7, hcc, hci⟩ := (hBx.ext hdr3.ext).conjAt
                obtain ⟨b8, o8, a8, cap8, rfl, _, _, hc8, hi8⟩ := Rows3.at hci k (by omega)
                by_cases hlt2 : j < (gt P.conj k).length
                · obtain ⟨b9, o9, a9, cap9, rfl, _, _, hc9, hi9⟩ := Rows2.at hi8 j hlt2
                  have b10 : (j : Int) < (gt P.conj k).length := by omega
                  have b11 : (0 : Int) ≤ j := by omega
                  cases hy : expZB P.orders (gt (gt P.conj k) j) k with
                  | false =>
                    have HY := Lib.hid hy
                    go_wp2
                    go_quiet ((go_at_call 283; exact quiet_rd (l07Exponents_ok _ _ _ P.orders (gt (gt P.conj k) j) k Any Any (hoi7.ext (grown_drewN _ _ _)) (hi9.ext (grown_drewN _ _ _)) HO0.out)))
                    go_wp2
                    go_ret
                    exact ret_bool (grown_trans hgr3 (grown_drewN _ _ _)) (HB3.out j (by omega) HY.out).symm
                  | true =>
                    have HY := Lib.hid hy
                    go_wp2
                    go_quiet ((go_at_call 283; exact quiet_rd (l07Exponents_ok _ _ _ P.orders (gt (gt P.conj k) j) k Any Any (hoi7.ext (grown_drewN _ _ _)) (hi9.ext (grown_drewN _ _ _)) HO0.out)))
                    go_wp2
                    go_roundw
                    case rel => exact ⟨j + 1, by go_num, by omega, hdr3.step _, fun i hi => by
                      rcases Nat.lt_or_ge i j with h1 | h1
                      · exact HZ3.out i h1
                      · have : i = j := by omega
                        rw [this]; exact HY.out⟩
                    case measure => simp [intOf]; omega
                · have hje : j = (gt P.conj k).length := by omega
                  go_wp2
                  go_roundw
                  case rel => exact ⟨k + 1, by go_num, by omega, hdr3, fun i hi => by
                    rcases Nat.lt_or_ge i k with h1 | h1
                    · exact HZ2.out i h1
                    · have : i = k := by omega
                      rw [this]; exact ⟨tailB_vec.2 (expZB_vec.1 HX.out), HLN.out, fun i hi => tailB_vec.2 (expZB_vec.1 (HZ3.out i (by omega)))⟩⟩
                  case measure => simp [intOf]; omega
            · have hd : (((gt P.conj k).length : Int) != (P.orders.length : Int) - 1 - k) = true := by simp; omega
              have HLN := Lib.hid hlen; clear hlen
              go_wp2
              go_quiet ((go_at_call 283; exact quiet_rd (l07Exponents_ok _ _ _ P.orders (gt P.powers k) k Any Any (hoi5.ext (grown_drewN _ _ _)) (hi2.ext (grown_drewN _ _ _)) HO0.out)))
              go_wp2
              go_ret
              exact ret_bool (grown_trans hgr (grown_drewN _ _ _)) (HB2.out HLN.out).symm
        · have hke : k = P.orders.length := by omega
          subst hke
          go_wp2
          go_ret
          refine ret_bool hgr (validB_true ?_).symm
          exact ⟨HLE.out, h6, HP.out, HC.out, fun i hi => primeB_true.1 (HZ.out i hi), fun i hi => tailB_vec.1 (HZ2.out i hi).1,
            fun i hi => ⟨(HZ2.out i hi).2.1, fun j hj => tailB_vec.1 ((HZ2.out i hi).2.2 j hj)⟩⟩

end Go.Proofs.YtldheeicjnncoaaGreat
namespace Go.Proofs.YtldheeicjnncoaaGreat
open Go.RowKit

def rFrom (P : Pr) : Nat → Nat → List Int → List Int
  | 0, _, _ => zeros P.orders.length
  | f + 1, i, X =>
    let out := rFrom P f (i + 1) (X.set i 0)
    if gt X i = 0 then out else
      rAt P (f + 1) i (rAt P (f + 1) i out ((zeros P.orders.length).set i (gt P.orders i - gt X i))) (rFrom P f (i + 1) (gt P.powers i))

theorem rFrom_vec {P : Pr} (hP : Valid P) (f : Nat) : ∀ i X, i + f = P.orders.length → Vec P.orders X → Vec P.orders (rFrom P f i X) := by
  induction f with
  | zero => intro i X _ _; exact zeros_vec hP
  | succ f ih =>
    intro i X hi hX
    have ho := hP.ord7 i (by omega)
    have hx := hX.2 i (by omega)
    have h1 := ih (i + 1) (X.set i 0) (by omega) (hX.set i 0 ⟨by omega, fun _ => by omega⟩)
    simp only [rFrom]
    split
    · exact h1
    · exact rAt_vec hP _ _ _ _ hi (rAt_vec hP _ _ _ _ hi h1 ((zeros_vec hP).set i _ ⟨by omega, fun _ => by omega⟩)) (ih (i + 1) _ (by omega) (hP.pv i (by omega)).1)

/-- the reference's inverse -/
def rInv (P : Pr) (X : List Int) : List Int := rFrom P P.orders.length 0 X

theorem rInv_vec {P : Pr} (hP : Valid P) (X : List Int) (hX : Vec P.orders X) : Vec P.orders (rInv P X) := rFrom_vec hP _ 0 X (by omega) hX
def rConj (P : Pr) (A B : List Int) : List Int := rMul P (rInv P B) (rMul P A B)

end Go.Proofs.YtldheeicjnncoaaGreat
namespace Go.Proofs.YtldheeicjnncoaaGreat
open Go.RowKit

def TgenOk (P : Pr) (fuel : Nat) : Prop :=
  ∀ (base : Nat) (w : World) (p e : Value) (E : List Int) (j : Nat), PresP (Off e.ownBlock) w p P → Own base w e E → Vec P.orders E → j < P.orders.length → P.orders.length ≤ fuel + j →
    Calls Tryz.prog 311 #[p, e, .int .i64 j] w (Mut w e.ownBlock fun w' v => v = .tuple #[] ∧ Own base w' e (tgen P fuel E j))

set_option maxHeartbeats 1000000 in
theorem timesVector_of (P : Pr) (hP : Valid P) (fuel : Nat) (ih : TgenOk P fuel) (base : Nat) (w : World) (p e f : Value) (E F : List Int) (hp : PresP (Off e.ownBlock) w p P) (hE : Own base w e E)
    (hv : Vec P.orders E) (hf : Ints (Off e.ownBlock) w f F) (hF : Vec P.orders F) (hz : ∀ j, j < P.orders.length → gt F j ≠ 0 → P.orders.length ≤ fuel + j) :
    Calls Tryz.prog 243 #[p, e, f] w (Mut w e.ownBlock fun w' v => v = .tuple #[] ∧ Own base w' e (tvec (tgen P fuel) E F)) := by
  have hlF : F.length ≤ P.orders.length := by rw [hF.1]; omega
  obtain ⟨a, cap, rfl, hl, hcf⟩ := hf
  go_enter Tryz.func243, Tryz.ntmps243
  go_wp2
  go_loopw [10] (fun i wr => ∃ k : Nat, i = .int .i64 k ∧ k ≤ F.length ∧ w.grownBy wr e.ownBlock ∧ Own base wr e (tvecTo (tgen P fuel) F E k)) (fun i _ => F.length - (intOf i).toNat)
  case atStart => exact ⟨0, rfl, by omega, grown_refl _ _, hE⟩
  case round =>
    obtain ⟨k, rfl, hk, hg, hO⟩ := hrel
    by_cases hlt : k < F.length
    · obtain ⟨b, off, u, rfl, hS, hb, hc, hu⟩ := hcf k hlt
      have hc' : wr.cell? ⟨b, off + k, none⟩ = some u := hg.cell hc (fun h => hS h.symm)
      have hu : u = .int .i64 (gt F k) := hu
      subst hu
      have hx := hF.2 k (by omega)
      have hx0 : 0 ≤ gt F k := hx.1
      have hx7 := hP.ord7 k (by omega)
      have hx1 : gt F k ≤ 7 := by omega
      have hvk : Vec P.orders (tvecTo (tgen P fuel) F E k) := tvecTo_vec (fun e j he hj h0 => tgen_vec hP fuel e j he hj (hz j hj h0)) hv k (by omega)
      clear hx hx7 hcf hc
      go_wp2
      go_loopw [16] (fun i wr => ∃ m : Nat, i = .int .i64 m ∧ m ≤ (gt F k).toNat ∧ w.grownBy wr e.ownBlock ∧ Own base wr e (iter m (fun e => tgen P fuel e k) (tvecTo (tgen P fuel) F E k))) (fun i _ => (gt F k).toNat - (intOf i).toNat)
      case atStart => exact ⟨0, rfl, by omega, hg, hO⟩
      case round =>
        clear hg hO hc'
        obtain ⟨m, rfl, hm, hg, hO⟩ := hrel
        by_cases hlt2 : (m : Int) < gt F k
        · have hkf : P.orders.length ≤ fuel + k := hz k (by omega) (by omega)
          have hvm : Vec P.orders (iter m (fun e => tgen P fuel e k) (tvecTo (tgen P fuel) F E k)) := iter_inv (Vec P.orders) _ (fun x hx => tgen_vec hP fuel x k hx (by omega) hkf) _ _ hvk
          go_wp2_with (go_at_call 311; go_must (refine (ih base _ p e _ k (hp.mono (frame_of hg fun k h _ => ⟨h, h⟩)) hO hvm (by omega) hkf).mono ?_); rintro e1 w1 ⟨v1, rfl, hg1, rfl, hO1⟩)
          go_roundw
          case rel => exact ⟨m + 1, by go_num, by omega, grown_trans hg hg1, hO1⟩
          case measure => simp [intOf]; omega
        · have hme : m = (gt F k).toNat := by omega
          have HO : Hid (Own base wr e (tvecTo (tgen P fuel) F E (k + 1))) := by rw [hme] at hO; exact hO
          clear hO hme
          go_wp2
          go_roundw
          case rel => exact ⟨k + 1, by go_num, by omega, hg, HO.out⟩
          case measure => simp [intOf]; omega
    · have hke : k = F.length := by omega
      have HO : Hid (Own base wr e (tvec (tgen P fuel) E F)) := by rw [hke] at hO; exact hO
      clear hO hke
      go_wp2
      go_end0
      exact ⟨_, rfl, hg, rfl, HO.out⟩

set_option maxHeartbeats 1000000 in
theorem timesGenerator_of (P : Pr) (hP : Valid P) (fuel : Nat) (ih : TgenOk P fuel) : TgenOk P (fuel + 1) := by
  intro base w p e E j hp hE hv hj hf
  have hlE : E.length ≤ P.orders.length ∧ P.orders.length ≤ E.length := by rw [hv.1]; omega
  have hn6 := hP.n6
  obtain ⟨g, cap, rfl, hgb, hgs⟩ := hE.form (by omega)
  obtain ⟨pb, po, rfl⟩ := hp.shape
  have hs := fun w => run_tail w (some ⟨g, 0, none⟩) E.length cap ((j : Int) + 1) (by omega) (by omega)
  go_enter Tryz.func311, Tryz.ntmps311
  have htl : Ints Any w (subSl (.slice (some ⟨g, 0, none⟩) E.length cap) (j + 1) E.length) (E.drop (j + 1)) := by
    have := subSl_ints (ints_of_own hE (by omega) (S := Any) (fun _ _ => trivial)) (j + 1) E.length (by omega) (by omega)
    rwa [List.take_length] at this
  have hxj := hv.2 j hj
  have hoj := hP.ord7 j hj
  go_wp2_with fail
  refine (clone_ok w _ (E.drop (j + 1)) Any htl (by simp; omega)).mono ?_
  rintro e1 w1 ⟨r, rfl, hg1, hR⟩
  clear htl hs
  have hRl : (E.drop (j + 1)).length + j + 1 = E.length := by simp; omega
  have hRv : ∀ k, k < (E.drop (j + 1)).length → 0 ≤ gt (E.drop (j + 1)) k ∧ gt (E.drop (j + 1)) k ≤ 7 := by
    intro k hk
    have h1 := hv.2 (j + 1 + k) (by omega)
    have h2 := hP.ord7 (j + 1 + k) (by omega)
    have h3 : gt (E.drop (j + 1)) k = gt E (j + 1 + k) := by simp only [gt, List.getD_eq_getElem?_getD, List.getElem?_drop]
    rw [h3]; omega
  have hRi : Ints (From w.heap.size) w1 r (E.drop (j + 1)) := ints_of_own hR (by omega) (fun k hk => (hR.lt k hk).1)
  generalize hRe : E.drop (j + 1) = R at *
  obtain ⟨ar, capr, rfl, _, _⟩ := hRi.shape
  have hRl1 : R.length + j + 1 ≤ E.length ∧ E.length ≤ R.length + j + 1 := by omega
  have HR := Lib.hid hRe; clear hRe hRl
  have HRv := Lib.hid hRv; clear hRv
  go_wp2
  go_loopw [17] (fun i wr => ∃ k : Nat, i = .int .i64 k ∧ k ≤ R.length ∧ w1.grownBy wr (some g) ∧ Own base wr (.slice (some ⟨g, 0, none⟩) E.length cap) (zeroed E j k)) (fun i _ => R.length - (intOf i).toNat)
  case atStart => exact ⟨0, rfl, by omega, grown_refl _ _, by rw [zeroed_zero]; exact hE.ext hg1 (.inr (by simp [Value.ownBlock]))⟩
  case round =>
    obtain ⟨k, rfl, hk, hg, hO⟩ := hrel
    by_cases hlt : k < R.length
    · have hlz := length_zeroed E j k (by omega)
      have hc := hO.cell (j + 1 + k) (by omega)
      have hfz := hO.frozen (j + 1 + k)
      have HL := Lib.hid hlz; clear hlz
      go_wp2
      go_roundw
      case rel =>
        obtain ⟨h1, h2⟩ := hO.store (j + 1 + k) 0
        exact ⟨k + 1, by go_num, by omega, grown_trans hg h2, by rw [zeroed_succ _ _ _ (by omega)]; exact h1⟩
      case measure => simp [intOf]; omega
    · have hke : k = R.length := by omega
      subst hke
      have hlz := length_zeroed E j R.length (by omega)
      have hzj : gt (zeroed E j R.length) j = gt E j := by rw [gt_zeroed _ _ _ _ (by omega), if_neg (by omega)]
      have hc := hO.cell j (by omega)
      rw [hzj] at hc
      have hfz := hO.frozen j
      have HL := Lib.hid hlz; clear hlz
      have hs1 := hO.store j (gt E j + 1)
      clear hzj
      go_wp2
      generalize hW : wr.setCell ⟨g, j, none⟩ (.int .i64 (gt E j + 1)) = W2 at hs1 ⊢
      obtain ⟨hO2, hg2⟩ := hs1
      clear hW hc hfz
      have hgw : w.grownBy W2 (some g) := grown_trans (grown_trans (grown_of_ext _ hg1) hg) hg2
      obtain ⟨ao, capo, hc0, hqo⟩ := (hp.mono (frame_of hgw fun k h _ => ⟨h, h⟩)).ordAt
      obtain ⟨bo, oo, rfl, _, _, hco⟩ := Ints.at hqo j hj
      have hlz1 : ((zeroed E j R.length).set j (gt E j + 1)).length = E.length := by rw [List.length_set]; exact HL.out
      have hce := hO2.cell j (by omega)
      rw [gt_set_eq _ _ _ (by have := HL.out; omega)] at hce
      have hfe := hO2.frozen j
      have hR2 : Ints (Off (some g)) W2 (.slice ar R.length capr) R := (hRi.sub (S' := Off (some g)) (fun k hk _ => by unfold Off; intro he; cases he; have : w.heap.size ≤ g := hk; omega)).mono (frame_of (grown_trans hg hg2) fun k h _ => ⟨h, h⟩)
      have hv1 : Vec P.orders (zeroed E j R.length) := hv.zeroed j R.length (by omega)
      have HV1 := Lib.hid hv1; clear hv1
      have HL1 := Lib.hid hlz1; clear hlz1
      clear hg hg2 hO hR hRi hg1 hk hlt hqo
      have hcl := hP.cv j hj
      have hclen : R.length ≤ (gt P.conj j).length := by rw [hcl.1]; omega
      have hjc : j < P.conj.length := by rw [hP.cl]; exact hj
      have hcz : ∀ k, k < R.length → Vec P.orders (gt (gt P.conj j) k) ∧ (∀ i, i < P.orders.length → gt (gt (gt P.conj j) k) i ≠ 0 → P.orders.length ≤ fuel + i) := by
        intro k hk
        obtain ⟨h1, h2⟩ := hcl.2 k (by omega)
        refine ⟨h1, fun i hi h0 => ?_⟩
        have : ¬ i ≤ j := fun h => h0 (h2 i h)
        omega
      have HCZ := Lib.hid hcz; clear hcz hcl
      have hfin : ∀ E2, E2 = (if gt E j + 1 = gt P.orders j then tvec (tgen P fuel) (((zeroed E j R.length).set j (gt E j + 1)).set j 0) (gt P.powers j) else (zeroed E j R.length).set j (gt E j + 1)) →
          tgen P (fuel + 1) E j = tconjTo (tgen P fuel) (gt P.conj j) R E2 R.length := by
        intro E2 h2
        have hr : R = E.drop (j + 1) := HR.out.symm
        rw [h2, hr]; rfl
      have HF := Lib.hid hfin; clear hfin
      by_cases hcar : gt E j + 1 = gt P.orders j
      case' pos =>
        have hb : (gt E j + 1 == gt P.orders j) = true := by simp [hcar]
        obtain ⟨E2, hE2⟩ : ∃ E2, E2 = tvec (tgen P fuel) (((zeroed E j R.length).set j (gt E j + 1)).set j 0) (gt P.powers j) := ⟨_, rfl⟩
        have HF2 := Lib.hid (HF.out E2 (by rw [if_pos hcar]; exact hE2)); clear HF
        have hv4 : Vec P.orders (((zeroed E j R.length).set j (gt E j + 1)).set j 0) := by rw [List.set_set]; exact HV1.out.set j 0 ⟨by omega, fun _ => by omega⟩
        have hpv := hP.pv j hj
        have hzp : ∀ i, i < P.orders.length → gt (gt P.powers j) i ≠ 0 → P.orders.length ≤ fuel + i := by
          intro i hi h0
          have : ¬ i ≤ j := fun h => h0 (hpv.2 i h)
          omega
        have hv5 : Vec P.orders E2 := by
          rw [hE2]
          exact tvec_vec hpv.1 (fun e i he hi h0 => tgen_vec hP fuel e i he hi (hzp i hi h0)) hv4
        have HE2 := Lib.hid hE2; clear hE2
        have HC := Lib.hid hcar; clear hcar
        have HZP := Lib.hid hzp; clear hzp
        have HPV := Lib.hid hpv.1; clear hpv
        go_quiet (fail)
        rename_i nq _
        have hO3 : Own base (W2.drewN nq) (.slice (some ⟨g, 0, none⟩) E.length cap) ((zeroed E j R.length).set j (gt E j + 1)) := hO2
        have hgw3 : w.grownBy (W2.drewN nq) (some g) := grown_trans hgw (grown_drewN _ _ _)
        have hR3 : Ints (Off (some g)) (W2.drewN nq) (.slice ar R.length capr) R := hR2.mono (frame_of (grown_drewN _ _ (some g)) fun k h _ => ⟨h, h⟩)
        have hce3 : (W2.drewN nq).cell? ⟨g, j, none⟩ = some (.int .i64 (gt E j + 1)) := hce
        have hfe3 : (W2.drewN nq).frozen? ⟨g, j, none⟩ = false := hfe
        clear hco hce hfe hc0 hO2 hR2 hgw
        generalize W2.drewN nq = W3 at *
        obtain ⟨hO4, hg4⟩ := hO3.store j 0
        have hgw4 : w.grownBy (W3.setCell ⟨g, j, none⟩ (.int .i64 0)) (some g) := grown_trans hgw3 hg4
        have hp4 : PresP (Off (some g)) (W3.setCell ⟨g, j, none⟩ (.int .i64 0)) (.pointer (some ⟨pb, po, none⟩)) P := hp.mono (frame_of hgw4 fun k h _ => ⟨h, h⟩)
        obtain ⟨ap, capp, hpc, hpr⟩ := hp4.powAt
        obtain ⟨bp, op, ar2, capr2, rfl, _, _, hprc, hpri⟩ := Rows2.at hpr j (by rw [hP.pl]; exact hj)
        have hjp : j < P.powers.length := by rw [hP.pl]; exact hj
        go_wp2_with fail
        refine Calls.mono (timesVector_of P hP fuel ih base _ _ _ _ _ (gt P.powers j) ?_ ?_ hv4 ?_ HPV.out HZP.out) ?_
        · exact hp4
        · exact hO4
        · exact hpri
        rintro e5 W5 ⟨v5, rfl, hg5, rfl, hO5⟩
        rw [← HE2.out] at hO5
        have hgw5 : w.grownBy W5 (some g) := grown_trans hgw4 hg5
        have hR5 : Ints (Off (some g)) W5 (.slice ar R.length capr) R := hR3.mono (frame_of (grown_trans hg4 hg5) fun k h _ => ⟨h, h⟩)
        clear hce3 hfe3 hO3 hR3 hgw3 hp4 hpc hpr hprc hpri hO4 hg4 hgw4 hg5
        go_wp2
      case' neg =>
        have hb : (gt E j + 1 == gt P.orders j) = false := by simp [hcar]
        obtain ⟨E2, hE2⟩ : ∃ E2, E2 = (zeroed E j R.length).set j (gt E j + 1) := ⟨_, rfl⟩
        have HF2 := Lib.hid (HF.out E2 (by rw [if_neg hcar]; exact hE2)); clear HF
        have hv5 : Vec P.orders E2 := by rw [hE2]; exact HV1.out.set j _ ⟨by omega, fun _ => by omega⟩
        rw [← hE2] at hO2
        have HC := Lib.hid hcar; clear hcar hE2
        go_quiet (fail)
        rename_i nq _
        have hgw5 : w.grownBy (W2.drewN nq) (some g) := grown_trans hgw (grown_drewN _ _ _)
        have hO5 : Own base (W2.drewN nq) (.slice (some ⟨g, 0, none⟩) E.length cap) E2 := hO2
        have hR5 : Ints (Off (some g)) (W2.drewN nq) (.slice ar R.length capr) R := hR2.mono (frame_of (grown_drewN _ _ (some g)) fun k h _ => ⟨h, h⟩)
        go_wp2
        clear hco hce hfe hc0 hO2 hR2 hgw
        generalize W2.drewN nq = W5 at *
      all_goals
        go_loopw [60] (fun i wr => ∃ k : Nat, i = .int .i64 k ∧ k ≤ R.length ∧ W5.grownBy wr (some g) ∧ Own base wr (.slice (some ⟨g, 0, none⟩) E.length cap) (tconjTo (tgen P fuel) (gt P.conj j) R E2 k) ∧ Vec P.orders (tconjTo (tgen P fuel) (gt P.conj j) R E2 k)) (fun i _ => R.length - (intOf i).toNat)
        case atStart => exact ⟨0, rfl, by omega, grown_refl _ _, hO5, hv5⟩
        case round =>
          obtain ⟨k, rfl, hk, hg, hO, hvk⟩ := hrel
          by_cases hlt : k < R.length
          · have HCk := Lib.hid (HCZ.out k hlt); clear HCZ
            have hRk := HRv.out k hlt
            have hx0 : 0 ≤ gt R k := hRk.1
            have hx7 : gt R k ≤ 7 := hRk.2
            obtain ⟨br, or, rfl, hbr, _, hcr0⟩ := Ints.at hR5 k hlt
            have hcr : wr.cell? ⟨br, or + k, none⟩ = some (.int .i64 (gt R k)) := hg.cell hcr0 (fun h => hbr h.symm)
            clear hcr0 hRk
            go_wp2
            go_loopw [66] (fun i wr => ∃ m : Nat, i = .int .i64 m ∧ m ≤ (gt R k).toNat ∧ W5.grownBy wr (some g) ∧ Own base wr (.slice (some ⟨g, 0, none⟩) E.length cap) (iter m (fun e => tvec (tgen P fuel) e (gt (gt P.conj j) k)) (tconjTo (tgen P fuel) (gt P.conj j) R E2 k)) ∧ Vec P.orders (iter m (fun e => tvec (tgen P fuel) e (gt (gt P.conj j) k)) (tconjTo (tgen P fuel) (gt P.conj j) R E2 k))) (fun i _ => (gt R k).toNat - (intOf i).toNat)
            case atStart => exact ⟨0, rfl, by omega, hg, hO, hvk⟩
            case round =>
              clear hg hO hcr hvk
              obtain ⟨m, rfl, hm, hg, hO, hvk⟩ := hrel
              by_cases hlt2 : (m : Int) < gt R k
              · have hp6 : PresP (Off (some g)) wr (.pointer (some ⟨pb, po, none⟩)) P := hp.mono (frame_of (grown_trans hgw5 hg) fun k h _ => ⟨h, h⟩)
                obtain ⟨ac, capc, hcc, hcr⟩ := hp6.conjAt
                obtain ⟨bc, oc, ac2, capc2, rfl, _, _, hc6, hcr6⟩ := Rows3.at hcr j hjc
                obtain ⟨bd, od, ad2, capd2, rfl, _, _, hc7, hcr7⟩ := Rows2.at hcr6 k (by omega)
                clear hcr hcr6
                go_wp2_with fail
                refine Calls.mono (timesVector_of P hP fuel ih base wr _ _ _ _ (gt (gt P.conj j) k) hp6 hO hvk hcr7 HCk.out.1 HCk.out.2) ?_
                rintro e6 W6 ⟨v6, rfl, hg6, rfl, hO6⟩
                have hg7 : W5.grownBy W6 (some g) := grown_trans hg hg6
                have hv7 := tvec_vec HCk.out.1 (fun e i he hi h0 => tgen_vec hP fuel e i he hi (HCk.out.2 i hi h0)) hvk
                clear hc6 hc7 hcc hcr7 hp6 hO hg6 hg
                go_wp2
                go_roundw
                case rel => exact ⟨m + 1, by go_num, by omega, hg7, hO6, hv7⟩
                case measure => simp [intOf]; omega
              · have hme : m = (gt R k).toNat := by omega
                subst hme
                go_wp2
                go_roundw
                case rel => exact ⟨k + 1, by go_num, by omega, hg, hO, hvk⟩
                case measure => simp [intOf]; omega
          · have hke : k = R.length := by omega
            subst hke
            go_wp2
            go_end0
            exact ⟨_, rfl, grown_trans hgw5 hg, rfl, by rw [HF2.out]; exact hO⟩

end Go.Proofs.YtldheeicjnncoaaGreat
namespace Go.Proofs.YtldheeicjnncoaaGreat
open Go.RowKit

/-- a reading that names the blocks that it uses -/
structure RdOk {α : Type} (El : (Nat → Prop) → World → Value → α → Prop) : Prop where
  mono : ∀ {F F' : Nat → Prop} {w w' : World} {u : Value} {x : α}, El F w u x → (∀ k, F k → k < w.heap.size → F' k ∧ k < w'.heap.size ∧ w'.heap[k]? = w.heap[k]?) → El F' w' u x
  one : ∀ {F : Nat → Prop} {w : World} {u : Value} {x : α}, El F w u x → u.oneCell' = true

/-- a slice whose elements lie in blocks of their own, apart from each other and from the slice's array; all in F -/
def SlD {α : Type} [Inhabited α] (El : (Nat → Prop) → World → Value → α → Prop) (F : Nat → Prop) (w : World) (v : Value) (xs : List α) : Prop :=
  ∃ (G : Nat → Nat → Prop) (H : Nat → Prop), (∀ k, H k → F k) ∧ (∀ i k, i < xs.length → G i k → F k ∧ ¬ H k) ∧ (∀ i j k, i < xs.length → j < xs.length → G i k → G j k → i = j) ∧
    ∃ a cap, v = .slice a xs.length cap ∧ (xs.length ≤ cap ∧ xs.length ≤ 9223372036854775807 ∧ (a = none → cap = 0)) ∧
      ∀ i, i < xs.length → ∃ b off u, a = some ⟨b, off, none⟩ ∧ H b ∧ b < w.heap.size ∧ w.cell? ⟨b, off + i, none⟩ = some u ∧ El (G i) w u (gt xs i)

/-- a slice of the call's own, whose elements lie in blocks of their own -/
def SlO {α : Type} [Inhabited α] (El : (Nat → Prop) → World → Value → α → Prop) (E B : Nat) (w : World) (v : Value) (xs : List α) : Prop :=
  ∃ (vs : List Value) (G : Nat → Nat → Prop), vs.length = xs.length ∧ OwnV B E w v vs ∧ (∀ i k, i < xs.length → G i k → B ≤ k ∧ v.ownBlock ≠ some k ∧ k < w.heap.size) ∧
    (∀ i j k, i < xs.length → j < xs.length → G i k → G j k → i = j) ∧ ∀ i, i < xs.length → El (G i) w (gt vs i) (gt xs i)

theorem SlO.nil {α : Type} [Inhabited α] (El : (Nat → Prop) → World → Value → α → Prop) (E B : Nat) (w : World) : SlO El E B w (.slice none 0 0) ([] : List α) :=
  ⟨[], fun _ _ => False, rfl, World.ownsRow_nil _ _ _ _, by simp, by simp, by simp⟩

theorem OwnV.form {B E : Nat} {w : World} {v : Value} {xs : List Value} (h : OwnV B E w v xs) :
    (v = .slice none 0 0 ∧ xs = []) ∨ ∃ g cap, v = .slice (some ⟨g, 0, none⟩) xs.length cap ∧ xs.length ≤ cap ∧ B ≤ g ∧ g < w.heap.size := by
  have hlt := h.lt
  obtain ⟨_, h | ⟨g, cap, cur, hv, hg, hb, hnc, _⟩⟩ := h
  · exact .inl ⟨h.1, List.eq_nil_of_length_eq_zero h.2⟩
  · exact .inr ⟨g, cap, hv, hnc, hg, (hlt g (by rw [hv]; rfl)).2⟩

theorem OwnV.cell {B E g cap n : Nat} {w : World} {xs : List Value} (h : OwnV B E w (.slice (some ⟨g, 0, none⟩) n cap) xs) (j : Nat) (hj : j < xs.length) : w.cell? ⟨g, j, none⟩ = some (gt xs j) := by
  have hn : n = xs.length := by
    obtain ⟨_, ⟨h, _⟩ | ⟨_, _, _, h, _⟩⟩ := h <;> cases h; rfl
  subst hn
  have := World.ownsRow.cellAt h j (by omega)
  rw [this]; simp [gt, hj]

theorem SlO.toD {α : Type} [Inhabited α] {El : (Nat → Prop) → World → Value → α → Prop} {E B : Nat} {w : World} {v : Value} {xs : List α} (h : SlO El E B w v xs) (hl : xs.length ≤ 9223372036854775807) : SlD El (From B) w v xs := by
  obtain ⟨vs, G, hvl, hO, hG, hd, hE⟩ := h
  refine ⟨G, fun k => B ≤ k ∧ v.ownBlock = some k, fun k hk => hk.1, fun i k hi hk => ⟨(hG i k hi hk).1, fun h => (hG i k hi hk).2.1 h.2⟩, hd, ?_⟩
  rcases hO.form with ⟨rfl, rfl⟩ | ⟨g, cap, rfl, hnc, hBg, hgs⟩
  · have : xs.length = 0 := by simpa using hvl.symm
    exact ⟨none, 0, by rw [this], ⟨by omega, by omega, fun _ => rfl⟩, fun i hi => by omega⟩
  · refine ⟨_, cap, by rw [hvl], ⟨by omega, hl, fun h => by cases h⟩, fun i hi => ⟨g, 0, gt vs i, rfl, ⟨hBg, rfl⟩, hgs, ?_, hE i hi⟩⟩
    rw [Nat.zero_add]; exact hO.cell i (by omega)

theorem SlD.shape {α : Type} [Inhabited α] {El : (Nat → Prop) → World → Value → α → Prop} {F : Nat → Prop} {w : World} {v : Value} {xs : List α} (h : SlD El F w v xs) :
    ∃ a cap, v = .slice a xs.length cap ∧ xs.length ≤ cap ∧ xs.length ≤ 9223372036854775807 := by
  obtain ⟨_, _, _, _, _, a, cap, hv, hl, _⟩ := h; exact ⟨a, cap, hv, hl.1, hl.2.1⟩

theorem rdInts : RdOk (fun F w u (x : List Int) => Ints F w u x) :=
  ⟨fun h hb => Ints.mono h hb, fun h => by obtain ⟨a, cap, rfl, _⟩ := h; rfl⟩

/-- a list of integers in a block that may be written -/
def OwnIn (F : Nat → Prop) (w : World) (v : Value) (l : List Int) : Prop := Own 0 w v l ∧ (∀ k, v.ownBlock = some k → F k) ∧ l.length ≤ 9223372036854775807

theorem ownsRow_move {base base' E : Nat} {w w' : World} {v : Value} {n : Nat} {xs : List Value} (h : w.ownsRow base E 1 v n xs) (hb : ∀ k, v.ownBlock = some k → w'.heap[k]? = w.heap[k]? ∧ base' ≤ k) : w'.ownsRow base' E 1 v n xs := by
  obtain ⟨h1, h2⟩ := h
  refine ⟨h1, ?_⟩
  rcases h2 with h | ⟨g, cap, cur, rfl, hg, hc, r⟩
  · exact .inl h
  · exact .inr ⟨g, cap, cur, rfl, (hb g rfl).2, by rw [(hb g rfl).1]; exact hc, r⟩

theorem rdOwn : RdOk OwnIn := by
  refine ⟨fun {F F' w w' u x} h hb => ?_, fun {F w u x} h => ?_⟩
  · obtain ⟨h1, h2, h3⟩ := h
    have hlt := h1.lt
    exact ⟨ownsRow_move h1 (fun k hk => ⟨(hb k (h2 k hk) (hlt k hk).2).2.2, Nat.zero_le _⟩), fun k hk => (hb k (h2 k hk) (hlt k hk).2).1, h3⟩
  · obtain ⟨⟨_, h | ⟨g, cap, cur, hv, _⟩⟩, _⟩ := h
    · rw [h.1]; rfl
    · rw [hv]; rfl

theorem OwnIn.ints {F : Nat → Prop} {w : World} {v : Value} {l : List Int} (h : OwnIn F w v l) : Ints F w v l := ints_of_own h.1 h.2.2 h.2.1
theorem OwnIn.of {base : Nat} {F : Nat → Prop} {w : World} {v : Value} {l : List Int} (h : Own base w v l) (hl : l.length ≤ 9223372036854775807) (hF : ∀ k, base ≤ k → k < w.heap.size → F k) : OwnIn F w v l :=
  ⟨h.weak (Nat.zero_le _), fun k hk => hF k (h.lt k hk).1 (h.lt k hk).2, hl⟩
theorem OwnIn.nil (F : Nat → Prop) (w : World) : OwnIn F w (.slice none 0 0) [] := ⟨World.ownsRow_nil _ _ _ _, by simp [Value.ownBlock], by simp⟩

abbrev RowsD (F : Nat → Prop) (w : World) (v : Value) (xs : List (List Int)) : Prop := SlD OwnIn F w v xs
abbrev RowsO (B : Nat) (w : World) (v : Value) (xs : List (List Int)) : Prop := SlO OwnIn 24 B w v xs

abbrev Rows3D (F : Nat → Prop) (w : World) (v : Value) (xs : List (List (List Int))) : Prop := SlD (fun F w u (x : List (List Int)) => RowsD F w u x) F w v xs

/-- plain reading -/
theorem RowsD.rows {F : Nat → Prop} {w : World} {v : Value} {xs : List (List Int)} (h : RowsD F w v xs) : Rows2 F w v xs := by
  obtain ⟨G, H, h1, h2, h3, a, cap, hv, hl, hc⟩ := h
  refine ⟨a, cap, hv, hl, fun i hi => ?_⟩
  obtain ⟨b, off, u, e1, e2, e3, e4, e5⟩ := hc i hi
  exact ⟨b, off, u, e1, h1 b e2, e3, e4, Ints.sub e5.ints (fun k hk _ => (h2 i k hi hk).1)⟩

theorem Rows3D.rows {F : Nat → Prop} {w : World} {v : Value} {xs : List (List (List Int))} (h : Rows3D F w v xs) : Rows3 F w v xs := by
  obtain ⟨G, H, h1, h2, h3, a, cap, hv, hl, hc⟩ := h
  refine ⟨a, cap, hv, hl, fun i hi => ?_⟩
  obtain ⟨b, off, u, e1, e2, e3, e4, e5⟩ := hc i hi
  exact ⟨b, off, u, e1, h1 b e2, e3, e4, Rows2.sub (RowsD.rows e5) (fun k hk _ => (h2 i k hi hk).1)⟩

theorem SlO.weak {α : Type} [Inhabited α] {El : (Nat → Prop) → World → Value → α → Prop} {E B B' : Nat} {w : World} {v : Value} {xs : List α} (h : SlO El E B w v xs) (hB : B' ≤ B) : SlO El E B' w v xs := by
  obtain ⟨vs, G, hvl, hO, hG, hd, hE⟩ := h
  refine ⟨vs, G, hvl, ?_, fun i k hi hk => ?_, hd, hE⟩
  · obtain ⟨h1, h2⟩ := hO
    refine ⟨h1, ?_⟩
    rcases h2 with h | ⟨g, cap, cur, hv, hg, r⟩
    · exact .inl h
    · exact .inr ⟨g, cap, cur, hv, Nat.le_trans hB hg, r⟩
  · obtain ⟨a, b, c⟩ := hG i k hi hk
    exact ⟨Nat.le_trans hB a, b, c⟩

/-- append of one element that was made since -/
theorem wp_app_one {α : Type} [Inhabited α] {El : (Nat → Prop) → World → Value → α → Prop} (hEl : RdOk El) (T E : Nat) (z : Value) (bytes : Nat) (hT : Tryz.prog.underlying T = some (.slice E))
    (hE : (Tryz.prog.info? E).map (fun i => (i.zero, i.size, i.bytes)) = some (some z, 1, bytes)) (hzs : z.cells.size = 1) (hbt : bytes ≤ 64)
    {ops : Array Oper} {rest : List Oper} {o : Oper} {a : Act} {Q : Exit → Act → World → Prop} {w : World} (hgd : o.guard = none) (s x : Operand)
    (ho : o.op = Op.call { callee := Callee.builtin Builtin.append, args := #[s, x], argTypes := #[T, T] }) (B : Nat) (w1 w2 : World) (v u : Value) (xs : List α) (y : α) (hs : a.eval s = v) (hown : SlO El E B w1 v xs)
    (hg : Ext w1 w2) (hu : El (From w1.heap.size) w2 u y) (hw : w = w2.alloc (.cells #[u] E)) (hx : a.eval x = .slice (some ⟨w2.heap.size, 0, none⟩) 1 1) (hlen : xs.length ≤ 1000000) (hbase : B ≤ w1.heap.size)
    (h : ∀ v' w', SlO El E B w' v' (xs ++ [y]) → w1.grownBy w' v.ownBlock → w2.grownBy w' v.ownBlock → wpList Tryz.prog ops Q rest (a.put o.dst v') w') :
    wpList Tryz.prog ops Q (o :: rest) a w := by
  subst hw
  obtain ⟨vs, G, hvl, hO, hG, hd, hEx⟩ := hown
  have hga : Ext w2 (w2.alloc (.cells #[u] E)) := World.grownBy_alloc _ _ _
  have hO2 : OwnV B E (w2.alloc (.cells #[u] E)) v vs := hO.kept (grown_trans hg hga) (by cases hv : v.ownBlock <;> simp)
  refine wp_app T E z bytes hT hE hzs hbt hgd s x ho B v vs hs hO2 (some ⟨w2.heap.size, 0, none⟩) 1 1 [u] hx rfl (by simp) ?_ ?_ (by omega) (by have := hg.size; simp; omega) ?_
  · intro j hj
    have : j = 0 := by omega
    subst this
    exact ⟨w2.heap.size, 0, rfl, by rw [World.cell?_alloc_at _ _ _ _ rfl]; rfl⟩
  · intro u' hu'
    simp at hu'; subst hu'; exact hEl.one hu
  · intro v' w' h1 h2 _ hat
    have hvb : ∀ k, v.ownBlock = some k → B ≤ k ∧ k < w1.heap.size := hO.lt
    have hg2 : w2.grownBy w' v.ownBlock := grown_trans (grown_of_ext _ hga) h2
    have hg1 : w1.grownBy w' v.ownBlock := grown_trans (grown_of_ext _ hg) hg2
    have hv'b : ∀ k, v'.ownBlock = some k → v.ownBlock = some k ∨ w2.heap.size < k := by
      intro k hk
      rcases hat with h | h
      · exact .inl (by rw [← h]; exact hk)
      · rw [h] at hk
        have : (w2.alloc (.cells #[u] E)).heap.size = k := by simpa using hk
        simp at this
        exact .inr (by omega)
    refine h v' w' ⟨vs ++ [u], fun i k => if i < xs.length then G i k ∧ k < w1.heap.size else w1.heap.size ≤ k ∧ k < w2.heap.size, by simp [hvl], h1, ?_, ?_, ?_⟩ hg1 hg2
    · intro i k hi hk
      split at hk
      · rename_i hlt
        obtain ⟨a1, a2, a3⟩ := hG i k hlt hk.1
        refine ⟨a1, fun hv' => ?_, Nat.lt_of_lt_of_le a3 hg1.size⟩
        rcases hv'b k hv' with h | h
        · exact a2 h
        · have := hg.size; omega
      · refine ⟨by omega, fun hv' => ?_, Nat.lt_of_lt_of_le hk.2 hg2.size⟩
        rcases hv'b k hv' with h | h
        · have := hvb k h; omega
        · omega
    · intro i j k hi hj hk hk'
      simp only [List.length_append, List.length_singleton] at hi hj
      split at hk <;> split at hk'
      · exact hd i j k (by assumption) (by assumption) hk.1 hk'.1
      · omega
      · omega
      · omega
    · intro i hi
      simp only [List.length_append, List.length_singleton] at hi
      by_cases hlt : i < xs.length
      · rw [gt_append_left _ _ _ (by omega), gt_append_left _ _ _ hlt]
        simp only [if_pos hlt]
        exact hEl.mono (hEx i hlt) (fun k hk hkl => ⟨⟨hk, hkl⟩, Nat.lt_of_lt_of_le hkl hg1.size, hg1.block k hkl (fun e => (hG i k hlt hk).2.1 e.symm)⟩)
      · have hi2 : i = xs.length := by omega
        subst hi2
        rw [gt_concat, ← hvl, gt_concat]
        simp only [hvl, Nat.lt_irrefl, if_false]
        exact hEl.mono hu (fun k hk hkl => ⟨⟨hk, hkl⟩, Nat.lt_of_lt_of_le hkl hg2.size, hg2.block k hkl (fun e => by
          have hk : w1.heap.size ≤ k := hk
          have := hvb k e.symm; omega)⟩)

end Go.Proofs.YtldheeicjnncoaaGreat
namespace Go.Proofs.YtldheeicjnncoaaGreat
open Go.RowKit

theorem tgenOk (P : Pr) (hP : Valid P) (f : Nat) : TgenOk P f := by
  induction f with
  | zero => intro base w p e E j _ _ _ hj hf; omega
  | succ f ih => exact timesGenerator_of P hP f ih

theorem timesGenerator_ok (P : Pr) (hP : Valid P) (base : Nat) (w : World) (p e : Value) (E : List Int) (j : Nat) (hp : PresP (Off e.ownBlock) w p P) (hE : Own base w e E) (hv : Vec P.orders E) (hj : j < P.orders.length) :
    Calls Tryz.prog 311 #[p, e, .int .i64 j] w (Mut w e.ownBlock fun w' v => v = .tuple #[] ∧ Own base w' e (tg P E j)) :=
  tgenOk P hP _ base w p e E j hp hE hv hj (by omega)

theorem timesVector_ok (P : Pr) (hP : Valid P) (base : Nat) (w : World) (p e f : Value) (E F : List Int) (hp : PresP (Off e.ownBlock) w p P) (hE : Own base w e E)
    (hv : Vec P.orders E) (hf : Ints (Off e.ownBlock) w f F) (hF : Vec P.orders F) :
    Calls Tryz.prog 243 #[p, e, f] w (Mut w e.ownBlock fun w' v => v = .tuple #[] ∧ Own base w' e (tv P E F)) :=
  timesVector_of P hP _ (tgenOk P hP _) base w p e f E F hp hE hv hf hF (fun j hj _ => by omega)

/-- what was there before an own vector was made lies apart from it -/
theorem off_of {base : Nat} {w w1 : World} {v : Value} {l : List Int} {S : Nat → Prop} (hO : Own base w1 v l) (hb : w.heap.size ≤ base) (hg : Ext w w1) :
    ∀ k, S k → k < w.heap.size → Off v.ownBlock k ∧ k < w1.heap.size ∧ w1.heap[k]? = w.heap[k]? := by
  intro k _ hk
  refine ⟨fun h => ?_, Nat.lt_of_lt_of_le hk hg.size, hg.block k hk (by simp)⟩
  have := (hO.lt k h).1; omega

/-- a step that writes an own vector turns nothing that was there before -/
theorem mut_ext {base : Nat} {w w1 w2 : World} {v : Value} {l : List Int} (hg : Ext w w1) (hO : Own base w1 v l) (hb : w.heap.size ≤ base) (h : w1.grownBy w2 v.ownBlock) : Ext w w2 :=
  grown_own hg h (fun j hj hlt => by have := (hO.lt j hj).1; omega)

set_option maxHeartbeats 400000 in
theorem multiply_ok (P : Pr) (hP : Valid P) (w : World) (p a b : Value) (A B : List Int) (Sp Sa Sb : Nat → Prop) (hp : PresP Sp w p P) (ha : Ints Sa w a A) (hb : Ints Sb w b B) (hA : Vec P.orders A) (hB : Vec P.orders B) :
    Calls Tryz.prog 253 #[p, a, b] w (Ret w fun w' v => Own w.heap.size w' v (tv P A B)) := by
  have hn6 := hP.n6
  have hlA : A.length ≤ 6 := by rw [hA.1]; omega
  go_enter Tryz.func253, Tryz.ntmps253
  go_wp2_with fail
  refine Calls.mono (clone_ok w a A Sa ha (by omega)) ?_
  rintro e1 w1 ⟨r, rfl, hg1, hR⟩
  go_wp2_with fail
  refine Calls.mono (timesVector_ok P hP w.heap.size w1 p r b A B (hp.mono (off_of hR (Nat.le_refl _) hg1)) hR hA (hb.mono (off_of hR (Nat.le_refl _) hg1)) hB) ?_
  rintro e2 w2 ⟨v2, rfl, hg2, rfl, hR2⟩
  go_wp2
  go_ret
  exact ⟨_, rfl, mut_ext hg1 hR (Nat.le_refl _) hg2, hR2⟩

def iPow (P : Pr) (a : List Int) (k : Int) : List Int := iter k.toNat (fun out => tv P out a) (List.replicate a.length 0)

theorem zeros_vec' {P : Pr} (hP : Valid P) {a : List Int} (ha : Vec P.orders a) : Vec P.orders (List.replicate a.length 0) := by
  refine ⟨by rw [List.length_replicate]; exact ha.1, fun i hi => ?_⟩
  have := hP.ord7 i hi
  rw [gt_replicate]; omega

theorem iPow_vec {P : Pr} (hP : Valid P) (a : List Int) (k : Int) (ha : Vec P.orders a) : Vec P.orders (iPow P a k) :=
  iter_inv (Vec P.orders) _ (fun y hy => tv_vec hP y a hy ha) _ _ (zeros_vec' hP ha)

set_option maxHeartbeats 400000 in
theorem power_ok (P : Pr) (hP : Valid P) (w : World) (p a : Value) (A : List Int) (k : Int) (Sp Sa : Nat → Prop) (hp : PresP Sp w p P) (ha : Ints Sa w a A) (hA : Vec P.orders A) (hk : k ≤ 1000000000) :
    Calls Tryz.prog 192 #[p, a, .int .i64 k] w (Ret w fun w' v => Own w.heap.size w' v (iPow P A k)) := by
  have hn6 := hP.n6
  have hlA : A.length ≤ 6 := by rw [hA.1]; omega
  obtain ⟨aa, capa, rfl, _, _⟩ := ha.shape
  go_enter Tryz.func192, Tryz.ntmps192
  go_wp2_with (at_make; refine wp_make_ints rfl _ _ rfl w.heap.size A.length w.heap.size rfl _ rfl rfl rfl (by omega) (Nat.le_refl _) ?_; intro w1 ho1 hg1 _)
  generalize Value.slice (some ⟨w.heap.size, 0, none⟩) A.length A.length = r at *
  go_loopw [12] (fun i wr => ∃ m : Nat, i = .int .i64 m ∧ m ≤ k.toNat ∧ Ext w wr ∧ Own w.heap.size wr r (iter m (fun out => tv P out A) (List.replicate A.length 0))) (fun i _ => k.toNat - (intOf i).toNat)
  case atStart => exact ⟨0, rfl, by omega, hg1, ho1⟩
  case round =>
    obtain ⟨m, rfl, hm, hg, hO⟩ := hrel
    by_cases hlt : (m : Int) < k
    · have hvm : Vec P.orders (iter m (fun out => tv P out A) (List.replicate A.length 0)) := iter_inv (Vec P.orders) _ (fun y hy => tv_vec hP y A hy hA) _ _ (zeros_vec' hP hA)
      have HV := Lib.hid hvm; clear hvm
      go_wp2_with fail
      refine Calls.mono (timesVector_ok P hP w.heap.size wr p r _ _ A (hp.mono (off_of hO (Nat.le_refl _) hg)) hO HV.out (ha.mono (off_of hO (Nat.le_refl _) hg)) hA) ?_
      rintro e2 w2 ⟨v2, rfl, hg2, rfl, hR2⟩
      have hg3 := mut_ext hg hO (Nat.le_refl _) hg2
      go_wp2
      go_roundw
      case rel => exact ⟨m + 1, by go_num, by omega, hg3, hR2⟩
      case measure => simp [intOf]; omega
    · have hme : m = k.toNat := by omega
      have HO : Hid (Own w.heap.size wr r (iPow P A k)) := by rw [hme] at hO; exact hO
      clear hO hme
      go_wp2
      go_ret
      exact ⟨_, rfl, hg, HO.out⟩

end Go.Proofs.YtldheeicjnncoaaGreat
namespace Go.Proofs.YtldheeicjnncoaaGreat
open Go.RowKit

/-- how often a generator is still to be taken -/
def left_ (o x : Int) : Nat := if x = 0 then 0 else (o - x).toNat

def invTo (P : Pr) (a : List Int) : Nat → List Int × List Int
  | 0 => (a, List.replicate a.length 0)
  | k + 1 =>
    let s := invTo P a k
    let m := left_ (gt P.orders k) (gt s.1 k)
    (iter m (fun e => tg P e k) s.1, iter m (fun e => tg P e k) s.2)

def iInv (P : Pr) (a : List Int) : List Int := (invTo P a a.length).2

theorem iter_tg {P : Pr} (hP : Valid P) (e : List Int) (k : Nat) (hk : k < P.orders.length) (he : Vec P.orders e) (h0 : gt e k ≠ 0) (s : Nat) (hs : s ≤ left_ (gt P.orders k) (gt e k)) :
    Vec P.orders (iter s (fun e => tg P e k) e) ∧ gt (iter s (fun e => tg P e k) e) k = if s = left_ (gt P.orders k) (gt e k) then 0 else gt e k + s := by
  have hx := he.2 k hk
  have hl : left_ (gt P.orders k) (gt e k) = (gt P.orders k - gt e k).toNat := by unfold left_; rw [if_neg h0]
  rw [hl] at hs ⊢
  induction s with
  | zero => exact ⟨he, by rw [if_neg (by omega)]; simp [iter]⟩
  | succ s ih =>
    obtain ⟨h1, h2⟩ := ih (by omega)
    refine ⟨tg_vec hP _ k h1 hk, ?_⟩
    show gt (tg P (iter s (fun e => tg P e k) e) k) k = _
    have h3 := (tgen_entries hP P.orders.length (iter s (fun e => tg P e k) e) k h1 hk (by omega)).2
    rw [if_neg (by omega)] at h2
    have h4 : gt (tg P (iter s (fun e => tg P e k) e) k) k = if gt (iter s (fun e => tg P e k) e) k + 1 = gt P.orders k then 0 else gt (iter s (fun e => tg P e k) e) k + 1 := h3
    rw [h4, h2]
    by_cases hc : gt e k + s + 1 = gt P.orders k
    · rw [if_pos hc, if_pos (by omega)]
    · rw [if_neg hc, if_neg (by omega)]; omega

theorem invTo_vec {P : Pr} (hP : Valid P) (a : List Int) (ha : Vec P.orders a) (k : Nat) (hk : k ≤ P.orders.length) : Vec P.orders (invTo P a k).1 ∧ Vec P.orders (invTo P a k).2 := by
  induction k with
  | zero => exact ⟨ha, zeros_vec' hP ha⟩
  | succ k ih =>
    obtain ⟨h1, h2⟩ := ih (by omega)
    exact ⟨iter_inv (Vec P.orders) _ (fun y hy => tg_vec hP y k hy (by omega)) _ _ h1, iter_inv (Vec P.orders) _ (fun y hy => tg_vec hP y k hy (by omega)) _ _ h2⟩

set_option maxHeartbeats 1000000 in
theorem invert_ok (P : Pr) (hP : Valid P) (w : World) (p a : Value) (A : List Int) (Sp Sa : Nat → Prop) (hp : PresP Sp w p P) (ha : Ints Sa w a A) (hA : Vec P.orders A) :
    Calls Tryz.prog 257 #[p, a] w (Ret w fun w' v => Own w.heap.size w' v (iInv P A)) := by
  have hn6 := hP.n6
  have hlA : A.length ≤ P.orders.length ∧ P.orders.length ≤ A.length := by rw [hA.1]; omega
  obtain ⟨aa, capa, rfl, _, _⟩ := ha.shape
  go_enter Tryz.func257, Tryz.ntmps257
  go_wp2_with fail
  refine Calls.mono (clone_ok w _ A Sa ha (by omega)) ?_
  rintro e1 w1 ⟨r, rfl, hg1, hR⟩
  have hRi := hR.ints (by omega)
  obtain ⟨ar, capr, rfl, _, _⟩ := hRi.shape
  go_wp2_with (at_make; refine wp_make_ints rfl _ _ rfl w1.heap.size A.length w1.heap.size rfl _ rfl rfl rfl (by omega) (Nat.le_refl _) ?_; intro w2 ho2 hg2 _)
  generalize Value.slice (some ⟨w1.heap.size, 0, none⟩) A.length A.length = t at *
  have hR2 := hR.ext0 hg2
  have hRlt := hR.lt
  have HRL := Lib.hid hRlt
  clear hRi hR hRlt
  have hw2 : Ext w w2 := grown_trans hg1 hg2
  have hw1 := hg1.size
  go_loopw [15] (fun i wr => ∃ k : Nat, i = .int .i64 k ∧ k ≤ A.length ∧ Ext w wr ∧ Own w.heap.size wr (.slice ar A.length capr) (invTo P A k).1 ∧ Own w1.heap.size wr t (invTo P A k).2) (fun i _ => A.length - (intOf i).toNat)
  case atStart => exact ⟨0, rfl, by omega, hw2, hR2, ho2⟩
  case round =>
    clear hR2 ho2
    obtain ⟨k, rfl, hk, hg, hO, hT⟩ := hrel
    obtain ⟨hv1, hv2⟩ := invTo_vec hP A hA k (by omega)
    have HV1 := Lib.hid hv1; have HV2 := Lib.hid hv2
    by_cases hlt : k < A.length
    · have hx := hv1.2 k (by omega)
      have hok := hP.ord7 k (by omega)
      obtain ⟨g, capg, hfm, _, _⟩ := hO.form (by rw [hv1.1]; omega)
      have hlen : (invTo P A k).1.length = A.length := by rw [hv1.1, hA.1]
      rw [hlen] at hfm
      have hsucc : invTo P A (k + 1) = (iter (left_ (gt P.orders k) (gt (invTo P A k).1 k)) (fun e => tg P e k) (invTo P A k).1, iter (left_ (gt P.orders k) (gt (invTo P A k).1 k)) (fun e => tg P e k) (invTo P A k).2) := rfl
      have HSC := Lib.hid hsucc; clear hsucc
      obtain ⟨rfl, hcg⟩ : ar = some ⟨g, 0, none⟩ ∧ capr = capg := by cases hfm; exact ⟨rfl, rfl⟩
      clear hfm hcg hv1 hv2
      have hbt := hT.lt
      have hgl : g < w1.heap.size := (HRL.out g rfl).2
      have HBT := Lib.hid hbt; clear hbt
      generalize hr0 : (invTo P A k).1 = R at *
      generalize ht0 : (invTo P A k).2 = T at *
      have Hr0 := Lib.hid hr0; have Ht0 := Lib.hid ht0; clear hr0 ht0
      have hx0 : 0 ≤ gt R k := hx.1
      have hx1 : gt R k < gt P.orders k := hx.2
      have hok1 : gt P.orders k ≤ 7 := hok.2
      have HLEN := Lib.hid hlen; clear hlen hx hok
      go_wp2
      go_loopg [21] (left_ (gt P.orders k) (gt R k)) (fun gk u wr => ∃ s : Nat, gk + s = left_ (gt P.orders k) (gt R k) ∧ Ext w wr ∧ Own w.heap.size wr (.slice (some ⟨g, 0, none⟩) A.length capr) (iter s (fun e => tg P e k) R) ∧ Own w1.heap.size wr t (iter s (fun e => tg P e k) T))
      case atStart => exact ⟨0, by omega, hg, hO, hT⟩
      case round =>
        clear hg hO hT
        obtain ⟨s, hs, hg, hO, hT⟩ := hrel
        have hRs : Vec P.orders (iter s (fun e => tg P e k) R) ∧ Vec P.orders (iter s (fun e => tg P e k) T) :=
          ⟨iter_inv (Vec P.orders) _ (fun y hy => tg_vec hP y k hy (by omega)) _ _ HV1.out, iter_inv (Vec P.orders) _ (fun y hy => tg_vec hP y k hy (by omega)) _ _ HV2.out⟩
        have HRs := Lib.hid hRs
        have hc := hO.cell k (by rw [hRs.1.1]; omega)
        clear hRs
        by_cases hm : s = left_ (gt P.orders k) (gt R k)
        · have hz : gt (iter s (fun e => tg P e k) R) k = 0 := by
            by_cases h0 : gt R k = 0
            · have : s = 0 := by rw [hm]; unfold left_; rw [if_pos h0]
              rw [this]; exact h0
            · rw [(iter_tg hP R k (by omega) HV1.out h0 s (by omega)).2, if_pos hm]
          rw [hz] at hc
          have hO2 : Own w.heap.size wr (.slice (some ⟨g, 0, none⟩) A.length capr) (invTo P A (k + 1)).1 := by rw [HSC.out, ← hm]; exact hO
          have hT2 : Own w1.heap.size wr t (invTo P A (k + 1)).2 := by rw [HSC.out, ← hm]; exact hT
          have HO2 := Lib.hid hO2; have HT2 := Lib.hid hT2; clear hO2 hT2 hO hT hm hz
          go_wp2
          go_roundw
          case rel => exact ⟨k + 1, by go_num, by omega, hg, HO2.out, HT2.out⟩
          case measure => simp [intOf]; omega
        · have hz : gt (iter s (fun e => tg P e k) R) k ≠ 0 := by
            by_cases h0 : gt R k = 0
            · exfalso; apply hm
              have : left_ (gt P.orders k) (gt R k) = 0 := by unfold left_; rw [if_pos h0]
              omega
            · rw [(iter_tg hP R k (by omega) HV1.out h0 s (by omega)).2, if_neg hm]; omega
          have hzb : (gt (iter s (fun e => tg P e k) R) k != 0) = true := by simpa using hz
          have HM := Lib.hid hm; clear hm hz
          go_wp2_with fail
          refine Calls.mono (timesGenerator_ok P hP w.heap.size wr p _ _ k (hp.mono (off_of hO (Nat.le_refl _) hg)) hO HRs.out.1 (by omega)) ?_
          rintro e3 w3 ⟨v3, rfl, hg3, rfl, hO3⟩
          have hgx := mut_ext hg hO (Nat.le_refl _) hg3
          have hT3 : Own w1.heap.size w3 t (iter s (fun e => tg P e k) T) := hT.ext hg3 (by
            cases hb : t.ownBlock with
            | none => exact .inl rfl
            | some q => exact .inr (fun h => by have h : some q = some g := h; cases h; have := (hT.lt _ hb).1; omega))
          go_wp2_with fail
          refine Calls.mono (timesGenerator_ok P hP w1.heap.size w3 p t _ k (hp.mono (off_of hT3 hw1 hgx)) hT3 HRs.out.2 (by omega)) ?_
          rintro e4 w4 ⟨v4, rfl, hg4, rfl, hT4⟩
          have hgy := mut_ext hgx hT3 hw1 hg4
          have hO4 := hO3.ext hg4 (by
            cases hb : t.ownBlock with
            | none => exact .inr (by simp [Value.ownBlock])
            | some q => exact .inr (fun h => by have h : some g = some q := h; cases h; have := (hT3.lt _ hb).1; omega))
          clear hc hzb hO hT hO3 hT3
          go_wp2
          go_roundg (gk - 1)
          case measure => have := HM.out; omega
          case rel => exact ⟨s + 1, by have := HM.out; omega, hgy, hO4, hT4⟩
    · have hke : k = A.length := by omega
      subst hke
      go_wp2
      go_ret
      exact ⟨_, rfl, hg, hT.weak hw1⟩

end Go.Proofs.YtldheeicjnncoaaGreat
namespace Go.Proofs.YtldheeicjnncoaaGreat
open Go.RowKit

theorem iInv_vec {P : Pr} (hP : Valid P) (a : List Int) (ha : Vec P.orders a) : Vec P.orders (iInv P a) := (invTo_vec hP a ha a.length (by rw [ha.1]; omega)).2

def iConj (P : Pr) (a b : List Int) : List Int := tv P (iInv P b) (tv P a b)

set_option maxHeartbeats 400000 in
theorem conjugate_ok (P : Pr) (hP : Valid P) (w : World) (p a b : Value) (A B : List Int) (Sp Sa Sb : Nat → Prop) (hp : PresP Sp w p P) (ha : Ints Sa w a A) (hb : Ints Sb w b B) (hA : Vec P.orders A) (hB : Vec P.orders B) :
    Calls Tryz.prog 189 #[p, a, b] w (Ret w fun w' v => Own w.heap.size w' v (iConj P A B)) := by
  have hn6 := hP.n6
  have hl1 : (iInv P B).length ≤ 6 := by rw [(iInv_vec hP B hB).1]; omega
  have hl2 : (tv P A B).length ≤ 6 := by rw [(tv_vec hP A B hA hB).1]; omega
  go_enter Tryz.func189, Tryz.ntmps189
  go_wp2_with fail
  refine Calls.mono (invert_ok P hP w p b B Sp Sb hp hb hB) ?_
  rintro e1 w1 ⟨r, rfl, hg1, hR⟩
  go_wp2_with fail
  refine Calls.mono (multiply_ok P hP w1 p a b A B Sp Sa Sb (hp.ext hg1) (ha.ext hg1) (hb.ext hg1) hA hB) ?_
  rintro e2 w2 ⟨m, rfl, hg2, hM⟩
  go_wp2_with fail
  refine Calls.mono (multiply_ok P hP w2 p r m _ _ Sp Any Any (hp.ext (grown_trans hg1 hg2)) ((hR.ext0 hg2).ints (by omega)) (hM.ints (by omega)) (iInv_vec hP B hB) (tv_vec hP A B hA hB)) ?_
  rintro e3 w3 ⟨q, rfl, hg3, hQ⟩
  go_wp2
  go_ret
  exact ⟨_, rfl, grown_trans (grown_trans hg1 hg2) hg3, hQ.weak (by have := hg1.size; have := hg2.size; omega)⟩

/-- the image of an element of the tail behind a generator -/
def iImg (P : Pr) (i : Nat) (x : List Int) : List Int := rImgTo (tv P) (gt P.conj i) i x (List.replicate x.length 0) (gt P.conj i).length

theorem iImgTo_vec {P : Pr} (hP : Valid P) (i : Nat) (hi : i < P.orders.length) (x out : List Int) (ho : Vec P.orders out) (k : Nat) (hk : k ≤ (gt P.conj i).length) :
    Vec P.orders (rImgTo (tv P) (gt P.conj i) i x out k) := by
  have hc := hP.cv i hi
  induction k with
  | zero => exact ho
  | succ k ih =>
    unfold rImgTo
    exact iter_inv (Vec P.orders) _ (fun y hy => tv_vec hP _ _ hy (hc.2 k (by omega)).1) _ _ (ih (by omega))

set_option maxHeartbeats 1000000 in
theorem imageBy_ok (P : Pr) (hP : Valid P) (w : World) (p x : Value) (i : Nat) (X : List Int) (Sp Sx : Nat → Prop) (hi : i < P.orders.length) (hp : PresP Sp w p P) (hx : Ints Sx w x X) (hX : Vec P.orders X) :
    Calls Tryz.prog 281 #[p, .int .i64 i, x] w (Ret w fun w' v => Own w.heap.size w' v (iImg P i X)) := by
  have hn6 := hP.n6
  have hlX : X.length ≤ P.orders.length ∧ P.orders.length ≤ X.length := by rw [hX.1]; omega
  obtain ⟨pb, po, rfl⟩ := hp.shape
  obtain ⟨ax, capx, rfl, _, _⟩ := hx.shape
  have hic : i < P.conj.length := by rw [hP.cl]; omega
  have hcl := (hP.cv i hi).1
  have hlc : (gt P.conj i).length + i + 1 ≤ P.orders.length := by omega
  have HCL := Lib.hid hcl; clear hcl
  obtain ⟨ac, capc, hcc0, hci0⟩ := hp.conjAt
  obtain ⟨bc, oc, ac2, capc2, rfl, _, _, hc20, hi20⟩ := Rows3.at hci0 i hic
  go_enter Tryz.func281, Tryz.ntmps281
  go_wp2_with (at_make; refine wp_make_ints rfl _ _ rfl w.heap.size X.length w.heap.size rfl _ rfl rfl rfl (by omega) (Nat.le_refl _) ?_; intro w1 ho1 hg1 _; have hcc := hg1.cell hcc0 (by simp); have hc2 := hg1.cell hc20 (by simp))
  clear hcc hc2 hci0 hcc0 hc20
  generalize Value.slice (some ⟨w.heap.size, 0, none⟩) X.length X.length = t at *
  go_loopw [21] (fun ii wr => ∃ k : Nat, ii = .int .i64 k ∧ k ≤ (gt P.conj i).length ∧ Ext w wr ∧ Own w.heap.size wr t (rImgTo (tv P) (gt P.conj i) i X (List.replicate X.length 0) k)) (fun ii _ => (gt P.conj i).length - (intOf ii).toNat)
  case atStart => exact ⟨0, rfl, by omega, hg1, ho1⟩
  case round =>
    clear ho1
    obtain ⟨k, rfl, hk, hgw, hO⟩ := hrel
    by_cases hlt : k < (gt P.conj i).length
    · have hvk := iImgTo_vec hP i hi X _ (zeros_vec' hP hX) k hk
      have HV := Lib.hid hvk; clear hvk
      have hcv := ((hP.cv i hi).2 k (by omega)).1
      have HCV := Lib.hid hcv; clear hcv
      have hix : ((i : Int) + 1 + k).toNat = i + 1 + k := by omega
      have hbx : (i : Int) + 1 + k < X.length := by omega
      obtain ⟨bx, ox, rfl, _, _, hcx⟩ := Ints.at (hx.ext hgw) (i + 1 + k) (by omega)
      have hxk := hX.2 (i + 1 + k) (by omega)
      have hx7 := hP.ord7 (i + 1 + k) (by omega)
      have hx0 : 0 ≤ gt X (i + 1 + k) := hxk.1
      have hx1 : gt X (i + 1 + k) ≤ 7 := by omega
      clear hxk hx7
      obtain ⟨bd, od, ad2, capd2, rfl, _, _, hcd0, hid⟩ := Rows2.at hi20 k hlt
      have hcd := hgw.cell hcd0 (by simp)
      go_wp2
      go_loopw [33] (fun mm wr2 => ∃ m : Nat, mm = .int .i64 m ∧ m ≤ (gt X (i + 1 + k)).toNat ∧ Ext w wr2 ∧ Own w.heap.size wr2 t (iter m (fun out => tv P out (gt (gt P.conj i) k)) (rImgTo (tv P) (gt P.conj i) i X (List.replicate X.length 0) k))) (fun mm _ => (gt X (i + 1 + k)).toNat - (intOf mm).toNat)
      case atStart => exact ⟨0, rfl, by omega, hgw, hO⟩
      case round =>
        clear hgw hO hcx hcd hcd0
        obtain ⟨m, rfl, hm, hgw, hO⟩ := hrel
        by_cases hlt2 : (m : Int) < gt X (i + 1 + k)
        · have hvm : Vec P.orders (iter m (fun out => tv P out (gt (gt P.conj i) k)) (rImgTo (tv P) (gt P.conj i) i X (List.replicate X.length 0) k)) := iter_inv (Vec P.orders) _ (fun y hy => tv_vec hP y _ hy HCV.out) _ _ HV.out
          have HVM := Lib.hid hvm; clear hvm
          go_wp2_with fail
          refine Calls.mono (timesVector_ok P hP w.heap.size wr _ t _ _ _ (hp.mono (off_of hO (Nat.le_refl _) hgw)) hO HVM.out (hid.mono (off_of hO (Nat.le_refl _) hgw)) HCV.out) ?_
          rintro e3 w3 ⟨v3, rfl, hg3, rfl, hO3⟩
          have hgx := mut_ext hgw hO (Nat.le_refl _) hg3
          go_wp2
          go_roundw
          case rel => exact ⟨m + 1, by go_num, by omega, hgx, hO3⟩
          case measure => simp [intOf]; omega
        · have hme : m = (gt X (i + 1 + k)).toNat := by omega
          subst hme
          go_wp2
          go_roundw
          case rel => exact ⟨k + 1, by go_num, by omega, hgw, hO⟩
          case measure => simp [intOf]; omega
    · have hke : k = (gt P.conj i).length := by omega
      subst hke
      go_wp2
      go_ret
      exact ⟨_, rfl, hgw, hO⟩

end Go.Proofs.YtldheeicjnncoaaGreat
namespace Go.Proofs.YtldheeicjnncoaaGreat
open Go.RowKit

/-- square and multiply -/
def rRepF (m : List Int → List Int → List Int) : Nat → List Int → List Int → Nat → List Int
  | 0, out, _, _ => out
  | f + 1, out, base, k => if k = 0 then out else rRepF m f (if k % 2 = 1 then m out base else out) (m base base) (k / 2)

def rRep (m : List Int → List Int → List Int) (out base : List Int) (k : Nat) : List Int := rRepF m k out base k

theorem rRepF_eq (m : List Int → List Int → List Int) : ∀ (f g : Nat) (out base : List Int) (k : Nat), k ≤ f → k ≤ g → rRepF m f out base k = rRepF m g out base k := by
  intro f
  induction f with
  | zero =>
    intro g out base k hf hg
    have : k = 0 := by omega
    subst this
    cases g <;> simp [rRepF]
  | succ f ih =>
    intro g out base k hf hg
    cases g with
    | zero =>
      have : k = 0 := by omega
      subst this; simp [rRepF]
    | succ g =>
      simp only [rRepF]
      split
      · rfl
      · exact ih g _ _ _ (by omega) (by omega)

theorem rRep_step (m : List Int → List Int → List Int) (out base : List Int) (k : Nat) (hk : 0 < k) : rRep m out base k = rRep m (if k % 2 = 1 then m out base else out) (m base base) (k / 2) := by
  unfold rRep
  obtain ⟨j, rfl⟩ : ∃ j, k = j + 1 := ⟨k - 1, by omega⟩
  show (if j + 1 = 0 then out else rRepF m j _ _ ((j + 1) / 2)) = _
  rw [if_neg (by omega)]
  exact rRepF_eq m _ _ _ _ _ (by omega) (Nat.le_refl _)

set_option maxHeartbeats 2000000 in
theorem l08Repeat_ok (P : Pr) (hP : Valid P) (w : World) (pv x : Value) (i f : Nat) (hi : i + f = P.orders.length) (X : List Int) (k : Int) (Sp Sx : Nat → Prop) (hp : PresV Sp w pv P) (hx : Ints Sx w x X) (hX : Vec P.orders X) (hk0 : 0 ≤ k) (hk : k ≤ 1000000000) :
    Calls Tryz.prog 310 #[pv, .int .i64 i, x, .int .i64 k] w (Ret w fun w' v => Own w.heap.size w' v (rRep (rAt P f i) (zeros P.orders.length) X k.toNat)) := by
  obtain ⟨vo, vp, vc, rfl, h3⟩ := hp
  have hn6 := hP.n6
  have hBx := PresP.box h3 28
  have hg0 : Ext w (w.alloc (.cells #[vo, vp, vc] 28)) := World.grownBy_alloc _ _ _
  have hx0 := hx.ext hg0
  have hlX : X.length ≤ P.orders.length ∧ P.orders.length ≤ X.length := by rw [hX.1]; omega
  have hs0 : (w.alloc (.cells #[vo, vp, vc] 28)).heap.size = w.heap.size + 1 := by simp
  have HS := Lib.hid hs0; clear hs0 hx
  go_enter Tryz.func310, Tryz.ntmps310
  obtain ⟨ao, capo, hco, hoi⟩ := hBx.ordAt
  go_wp2_with (at_make; refine wp_make_ints rfl _ _ rfl (w.heap.size + 1) P.orders.length (w.heap.size + 1) (by simp) _ rfl rfl rfl (by omega) (by simp) ?_; intro w1 ho1 hg1 hlt1)
  clear hco hoi
  have hBx1 := hBx.ext hg1
  have hx1 := hx0.ext hg1
  have hgw1 : Ext w w1 := grown_trans hg0 hg1
  obtain ⟨ax, capx, rfl, _, _⟩ := hx1.shape
  clear hBx hx0 hg1 hg0
  generalize hres : rRep (rAt P f i) (zeros P.orders.length) X k.toNat = res at *
  have HRes := Lib.hid hres; clear hres
  have hs1 : w.heap.size ≤ w1.heap.size := hgw1.size
  go_loopw [3, 9, 10] (fun kv ov bv wr => ∃ (m : Nat) (O B : List Int), kv = .int .i64 m ∧ m ≤ k.toNat ∧ Ext w1 wr ∧ Own w.heap.size wr ov O ∧ Ints Any wr bv B ∧ Vec P.orders O ∧ Vec P.orders B ∧ rRep (rAt P f i) O B m = res) (fun kv _ _ _ => (intOf kv).toNat)
  case atStart => exact ⟨k.toNat, _, X, by congr 1; omega, Nat.le_refl _, Ext.refl _, ho1.weak (by omega), Ints.sub hx1 (fun _ _ _ => trivial), zeros_vec hP, hX, HRes.out⟩
  case round =>
    obtain ⟨m, O, B, rfl, hm, hg, hO, hB, hvO, hvB, hr⟩ := hrel
    have HVO := Lib.hid hvO; have HVB := Lib.hid hvB; have HR := Lib.hid hr; clear hr
    obtain ⟨vo9, vp9, vc9, _, _, hc0, hc1, hc2, h39⟩ := (hBx1.ext hg).at
    obtain ⟨ab, capb, rfl, _, _⟩ := hB.shape
    have hOi := hO.ints (by rw [hvO.1]; omega)
    have hlB := hvB.1
    clear hvO hvB
    have HLB := Lib.hid hlB; clear hlB
    by_cases hm0 : 0 < m
    · by_cases hodd : m % 2 = 1
      · have hb : (((m : Int).tmod 2) == 1) = true := by
          rw [Int.tmod_eq_emod_of_nonneg (by omega)]; simp; omega
        have hb2 : (((m : Int) % 2) == 1) = true := by simp; omega
        have HOD := Lib.hid hodd; clear hodd
        go_wp2_with fail
        refine Calls.mono (l08At_ok P hP f wr _ _ _ i O B Any Any Any hi ⟨_, _, _, rfl, h39⟩ hOi hB HVO.out HVB.out) ?_
        rintro e2 w2 ⟨v2, rfl, hg2, hO2⟩
        have hc02 := hg2.cell hc0 (by simp)
        have hc12 := hg2.cell hc1 (by simp)
        have hc22 := hg2.cell hc2 (by simp)
        go_wp2_with fail
        refine Calls.mono (l08At_ok P hP f w2 _ _ _ i B B Any Any Any hi ⟨_, _, _, rfl, h39.ext hg2⟩ (hB.ext hg2) (hB.ext hg2) HVB.out HVB.out) ?_
        rintro e3 w3 ⟨v3, rfl, hg3, hO3⟩
        have hvb3 := rAt_vec hP f i B B hi HVB.out HVB.out
        have hB3 := hO3.ints (by rw [hvb3.1]; omega)
        have HV3 := Lib.hid hvb3; clear hvb3 hb hb2
        have hO2' := (hO2.ext0 hg3).weak (base' := w.heap.size) (by have := hg.size; omega)
        go_wp2
        go_roundw
        case rel => exact ⟨m / 2, _, _, by first | rfl | (congr 1; omega) | congr 1, by omega, grown_trans (grown_trans hg hg2) hg3, hO2', hB3, rAt_vec hP f i O B hi HVO.out HVB.out, HV3.out, by rw [← HR.out, rRep_step _ O B m hm0, if_pos HOD.out]⟩
        case measure => simp [intOf]; omega
      · have hb : (((m : Int).tmod 2) == 1) = false := by
          rw [Int.tmod_eq_emod_of_nonneg (by omega)]; simp; omega
        have hb2 : (((m : Int) % 2) == 1) = false := by simp; omega
        have HOD := Lib.hid hodd; clear hodd
        go_wp2_with fail
        refine Calls.mono (l08At_ok P hP f wr _ _ _ i B B Any Any Any hi ⟨_, _, _, rfl, h39⟩ hB hB HVB.out HVB.out) ?_
        rintro e3 w3 ⟨v3, rfl, hg3, hO3⟩
        have hvb3 := rAt_vec hP f i B B hi HVB.out HVB.out
        have hB3 := hO3.ints (by rw [hvb3.1]; omega)
        have HV3 := Lib.hid hvb3; clear hvb3 hb hb2
        have hO2' := hO.ext0 hg3
        go_wp2
        go_roundw
        case rel => exact ⟨m / 2, _, _, by first | rfl | (congr 1; omega) | congr 1, by omega, grown_trans hg hg3, hO2', hB3, HVO.out, HV3.out, by rw [← HR.out, rRep_step _ O B m hm0, if_neg HOD.out]⟩
        case measure => simp [intOf]; omega
    · have hm1 : m = 0 := by omega
      subst hm1
      have HO : Hid (Own w.heap.size wr u9 res) := by rw [← HR.out]; exact hO
      go_wp2
      go_ret
      exact ⟨_, rfl, grown_trans hgw1 hg, by show Own _ _ _ _; rw [HRes.out]; exact HO.out⟩

end Go.Proofs.YtldheeicjnncoaaGreat
namespace Go.Proofs.YtldheeicjnncoaaGreat
open Go.RowKit

def ICond1 (P : Pr) (i J : Nat) : Prop := iPow P (gt (gt P.conj i) (J - i - 1)) (gt P.orders J) = iImg P i (gt P.powers J)
def ICond2 (P : Pr) (i J K : Nat) : Prop := iConj P (gt (gt P.conj i) (K - i - 1)) (gt (gt P.conj i) (J - i - 1)) = iImg P i (gt (gt P.conj J) (K - J - 1))
def ICond3 (P : Pr) (i : Nat) : Prop := iImg P i (gt P.powers i) = gt P.powers i
def ICond4 (P : Pr) (i J : Nat) : Prop := iter (gt P.orders i).toNat (fun x => iImg P i x) (unitV P.orders.length J) = iConj P (unitV P.orders.length J) (gt P.powers i)

/-- no fault at level i -/
structure ILevel (P : Pr) (i : Nat) : Prop where
  c1 : ∀ J, i < J → J < P.orders.length → ICond1 P i J
  c2 : ∀ J K, i < J → J < K → K < P.orders.length → ICond2 P i J K
  c3 : ICond3 P i
  c4 : ∀ J, i < J → J < P.orders.length → ICond4 P i J

theorem frozen_ext {w w' : World} {a : Addr} (hg : Ext w w') (h : w.frozen? a = false) (hb : a.block < w.heap.size) : w'.frozen? a = false := by
  rw [World.frozen?_of_block (w := w) (hg.block a.block hb (by simp))]; exact h

/-- four stores into one block of the call's own -/
theorem ext_set4 {w wB : World} {rc : Nat} (hg : Ext w wB) (hrc : w.heap.size ≤ rc) (a b c d : Value) :
    Ext w ((((wB.setCell ⟨rc, 0, none⟩ a).setCell ⟨rc, 1, none⟩ b).setCell ⟨rc, 2, none⟩ c).setCell ⟨rc, 3, none⟩ d) := by
  have h1 : ∀ (W : World) (k : Nat) (v : Value), W.grownBy (W.setCell ⟨rc, k, none⟩ v) (some rc) := fun W k v =>
    ⟨rfl, rfl, rfl, by simp [World.setCell], fun j _ hj => Below.heap_setCell _ _ _ _ (by intro e; exact hj (by rw [e]))⟩
  have hne : ∀ j, some rc = some j → j < w.heap.size → none = some j := fun j hj hlt => by cases hj; omega
  exact grown_own (grown_own (grown_own (grown_own hg (h1 _ _ _) hne) (h1 _ _ _) hne) (h1 _ _ _) hne) (h1 _ _ _) hne

def fault0 : Value := .agg #[.int .i64 0, .int .i64 0, .int .i64 0, .int .i64 0]

/-- what a look at a level hands back: zeros where there is no fault, else a kind that is not 0 -/
def FaultR (good : Prop) (v : Value) : Prop := (good ∧ v = fault0) ∨ (¬ good ∧ ∃ a b c d : Int, a ≠ 0 ∧ v = .agg #[.int .i64 a, .int .i64 b, .int .i64 c, .int .i64 d])

theorem iImg_vec {P : Pr} (hP : Valid P) (i : Nat) (hi : i < P.orders.length) (x : List Int) (hx : Vec P.orders x) : Vec P.orders (iImg P i x) :=
  iImgTo_vec hP i hi x _ (zeros_vec' hP hx) _ (Nat.le_refl _)
theorem iConj_vec {P : Pr} (hP : Valid P) (a b : List Int) (ha : Vec P.orders a) (hb : Vec P.orders b) : Vec P.orders (iConj P a b) :=
  tv_vec hP _ _ (iInv_vec hP b hb) (tv_vec hP a b ha hb)
theorem unitV_vec {P : Pr} (hP : Valid P) (j : Nat) : Vec P.orders (unitV P.orders.length j) := by
  refine ⟨by simp [unitV], fun i hi => ?_⟩
  have := hP.ord7 i hi
  by_cases h : j = i
  · subst h; unfold unitV; rw [gt_set_eq _ _ _ (by simpa using hi)]; omega
  · unfold unitV; rw [gt_set_ne _ _ _ _ h, gt_replicate]; omega

set_option maxRecDepth 100000 in
set_option maxHeartbeats 8000000 in
theorem levelFault_ok (P : Pr) (hP : Valid P) (w : World) (p : Value) (i : Nat) (Sp : Nat → Prop) (hp : PresP Sp w p P) (hi : i < P.orders.length) :
    Calls Tryz.prog 193 #[p, .int .i64 i] w (Ret w fun _ v => FaultR (ILevel P i) v) := by
  have hn6 := hP.n6
  obtain ⟨pb, po, rfl⟩ := hp.shape
  have hg0 : Ext w (w.alloc (.cells #[.int .i64 0, .int .i64 0, .int .i64 0, .int .i64 0] 174)) := World.grownBy_alloc _ _ _
  have hp0 := hp.ext hg0
  obtain ⟨ao, capo, hco, hoi⟩ := hp0.ordAt
  go_enter Tryz.func193, Tryz.ntmps193
  go_wp2
  clear hco hoi
  have r0 : (w.alloc (.cells #[.int .i64 0, .int .i64 0, .int .i64 0, .int .i64 0] 174)).cell? ⟨w.heap.size, 0, none⟩ = some (.int .i64 0) := by rw [World.cell?_alloc_at _ _ _ _ rfl]; rfl
  have r1 : (w.alloc (.cells #[.int .i64 0, .int .i64 0, .int .i64 0, .int .i64 0] 174)).cell? ⟨w.heap.size, 1, none⟩ = some (.int .i64 0) := by rw [World.cell?_alloc_at _ _ _ _ rfl]; rfl
  have r2 : (w.alloc (.cells #[.int .i64 0, .int .i64 0, .int .i64 0, .int .i64 0] 174)).cell? ⟨w.heap.size, 2, none⟩ = some (.int .i64 0) := by rw [World.cell?_alloc_at _ _ _ _ rfl]; rfl
  have r3 : (w.alloc (.cells #[.int .i64 0, .int .i64 0, .int .i64 0, .int .i64 0] 174)).cell? ⟨w.heap.size, 3, none⟩ = some (.int .i64 0) := by rw [World.cell?_alloc_at _ _ _ _ rfl]; rfl
  have rf : ∀ k, (w.alloc (.cells #[.int .i64 0, .int .i64 0, .int .i64 0, .int .i64 0] 174)).frozen? ⟨w.heap.size, k, none⟩ = false := fun k => World.frozen?_alloc_at _ _ _ _ rfl
  have rs : w.heap.size < (w.alloc (.cells #[.int .i64 0, .int .i64 0, .int .i64 0, .int .i64 0] 174)).heap.size := by simp
  generalize w.alloc (.cells #[.int .i64 0, .int .i64 0, .int .i64 0, .int .i64 0] 174) = w0 at *
  have RR := Lib.hid (And.intro r0 (And.intro r1 (And.intro r2 (And.intro r3 rf)))); clear r0 r1 r2 r3 rf
  have hvw := (hP.pv i hi).1
  have HVW := Lib.hid hvw; clear hvw
  have hcl := hP.cl
  have hpl := hP.pl
  have hic : i < P.conj.length := by omega
  have hip : i < P.powers.length := by omega
  have hcv := hP.cv i hi
  have HCV := Lib.hid hcv; clear hcv
  have HCL := Lib.hid hcl; have HPL := Lib.hid hpl; clear hcl hpl
  go_loopw [7] (fun jv wr => ∃ J : Nat, jv = .int .i64 J ∧ i + 1 ≤ J ∧ J ≤ P.orders.length ∧ Ext w0 wr ∧ ∀ m, i < m → m < J → ICond1 P i m) (fun jv _ => P.orders.length - (intOf jv).toNat)
  case atStart => exact ⟨i + 1, by go_num, by omega, by omega, Ext.refl _, fun m h1 h2 => by omega⟩
  case round =>
    obtain ⟨J, rfl, hJ1, hJ2, hg, hc1⟩ := hrel
    have HC1 := Lib.hid hc1; clear hc1
    by_cases hlt : J < P.orders.length
    · --<P1
      have hpr := hp0.ext hg
      obtain ⟨ao, capo, hco, hoi⟩ := hpr.ordAt
      obtain ⟨bo, oo, rfl, _, _, hcoi⟩ := Ints.at hoi J hlt
      obtain ⟨ap, capp, hcp, hpi⟩ := hpr.powAt
      obtain ⟨bp, op, ap2, capp2, rfl, _, _, hcpi, hpii⟩ := Rows2.at hpi J (by have := HPL.out; omega)
      obtain ⟨ac, capc, hcc, hci⟩ := hpr.conjAt
      obtain ⟨bc, oc, ac2, capc2, rfl, _, _, hcci, hcii⟩ := Rows3.at hci i hic
      obtain ⟨bd, od, ad2, capd2, rfl, _, _, hcd, hid⟩ := Rows2.at hcii (J - i - 1) (by rw [HCV.out.1]; omega)
      have e1 : ∀ w', Ext wr w' → w'.cell? ⟨pb, po, none⟩ = some (.slice (some ⟨bo, oo, none⟩) P.orders.length capo) := fun w' h => h.cell hco (by simp)
      have e2 : ∀ w', Ext wr w' → w'.cell? ⟨pb, po + 1, none⟩ = some (.slice (some ⟨bp, op, none⟩) P.powers.length capp) := fun w' h => h.cell hcp (by simp)
      have e3 : ∀ w', Ext wr w' → w'.cell? ⟨pb, po + 2, none⟩ = some (.slice (some ⟨bc, oc, none⟩) P.conj.length capc) := fun w' h => h.cell hcc (by simp)
      have e4 : ∀ w', Ext wr w' → w'.cell? ⟨bo, oo + J, none⟩ = some (.int .i64 (gt P.orders J)) := fun w' h => h.cell hcoi (by simp)
      have e5 : ∀ w', Ext wr w' → w'.cell? ⟨bp, op + J, none⟩ = some (.slice ap2 (gt P.powers J).length capp2) := fun w' h => h.cell hcpi (by simp)
      have e6 : ∀ w', Ext wr w' → w'.cell? ⟨bc, oc + i, none⟩ = some (.slice (some ⟨bd, od, none⟩) (gt P.conj i).length capc2) := fun w' h => h.cell hcci (by simp)
      have e7 : ∀ w', Ext wr w' → w'.cell? ⟨bd, od + (J - i - 1), none⟩ = some (.slice ad2 (gt (gt P.conj i) (J - i - 1)).length capd2) := fun w' h => h.cell hcd (by simp)
      have b1 : (0 : Int) ≤ (J : Int) - i - 1 := by omega
      have b2 : (J : Int) - i - 1 < (gt P.conj i).length := by rw [HCV.out.1]; omega
      have b3 : (i : Int) < P.conj.length := by omega
      have b4 : (J : Int) < P.powers.length := by have := HPL.out; omega
      have b5 : (J : Int) < P.orders.length := by omega
      have b6 : (0 : Int) ≤ J := by omega
      have b7 : ((J : Int) - i - 1).toNat = J - i - 1 := by omega
      have b8 : (1 : Int) ≤ (J : Int) - i := by omega
      have s1 : IntKind.i64.wrap ((J : Int) - i) = (J : Int) - i := IntWalk.i64_in _ (by omega)
      have s2 : IntKind.i64.wrap ((J : Int) - i - 1) = (J : Int) - i - 1 := IntWalk.i64_in _ (by omega)
      have hcvec := (HCV.out.2 (J - i - 1) (by omega)).1
      have hpvec := (hP.pv J hlt).1
      have hoJ := hP.ord7 J hlt
      have HX := Lib.hid (And.intro hcvec (And.intro hpvec hoJ)); clear hcvec hpvec hoJ
      have hl1 := (iPow_vec hP _ (gt P.orders J) HX.out.1).1
      have hl2 := (iImg_vec hP i hi _ HX.out.2.1).1
      have HL := Lib.hid (And.intro hl1 hl2); clear hl1 hl2
      clear hco hcoi hcp hcpi hcc hcci hcd hoi hpi hci hcii
      have rr0 := hg.cell RR.out.1 (by simp)
      have rr1 := hg.cell RR.out.2.1 (by simp)
      have rr2 := hg.cell RR.out.2.2.1 (by simp)
      have rr3 := hg.cell RR.out.2.2.2.1 (by simp)
      have rrf := fun k => frozen_ext hg (RR.out.2.2.2.2 k) rs
      have rrs : w.heap.size < wr.heap.size := Nat.lt_of_lt_of_le rs hg.size
      have RRr := Lib.hid (And.intro rr0 (And.intro rr1 (And.intro rr2 (And.intro rr3 rrf)))); clear rr0 rr1 rr2 rr3 rrf
      go_wp2
      cases hq : eqB (iPow P (gt (gt P.conj i) (J - i - 1)) (gt P.orders J)) (iImg P i (gt P.powers J)) with
      | true =>
        have HQ := Lib.hid hq
        go_region_held3 (fun w' => Ext wr w') (first | exact grown_drew _ _ | assumption)
          (first
            | (go_at_call 192; refine Calls.mono (Calls.rel (w0 := wr) (by assumption) (power_ok P hP _ _ _ _ _ Any Any (PresP.sub (PresP.ext hpr (by assumption)) (fun _ _ _ => trivial)) (Ints.sub (Ints.ext hid (by assumption)) (fun _ _ _ => trivial)) HX.out.1 (by have := HX.out.2.2; omega))) ?_; rintro eA wA ⟨vA, rfl, hgA, hsA, hOA⟩)
            | (go_at_call 281; refine Calls.mono (Calls.rel2 (w0 := wr) (by assumption) (imageBy_ok P hP _ _ _ i _ Any Any hi (PresP.sub (PresP.ext hpr (by assumption)) (fun _ _ _ => trivial)) (Ints.sub (Ints.ext hpii (by assumption)) (fun _ _ _ => trivial)) HX.out.2.1)) ?_; rintro eF wF ⟨vF, rfl, hgF, hgF2, hsF, hOF⟩; have hOA2 := (hOA.ext0 hgF2).ints (by rw [HL.out.1]; omega); have hOF2 := hOF.ints (by rw [HL.out.2]; omega))
            | (go_at_call 167; refine Calls.mono (Calls.rel (w0 := wr) (by assumption) (sEqual_ok _ _ _ _ _ Any Any hOA2 hOF2)) ?_; rintro eB wB ⟨vB, rfl, hgB, hsB, rfl⟩))
        clear e1 e2 e3 e4 e5 e6 e7 s1 s2 b1 b2 b7 b8
        go_wp2
        go_roundw
        case rel => exact ⟨J + 1, by go_num, by omega, by omega, grown_trans hg hgB, fun m h1 h2 => by
          rcases Nat.lt_or_ge m J with h3 | h3
          · exact HC1.out m h1 h3
          · have : m = J := by omega
            rw [this]; exact eqB_true.1 HQ.out⟩
        case measure => simp [intOf]; omega
      | false =>
        have HQ := Lib.hid hq
        go_region_held3 (fun w' => Ext wr w') (first | exact grown_drew _ _ | assumption)
          (first
            | (go_at_call 192; refine Calls.mono (Calls.rel (w0 := wr) (by assumption) (power_ok P hP _ _ _ _ _ Any Any (PresP.sub (PresP.ext hpr (by assumption)) (fun _ _ _ => trivial)) (Ints.sub (Ints.ext hid (by assumption)) (fun _ _ _ => trivial)) HX.out.1 (by have := HX.out.2.2; omega))) ?_; rintro eA wA ⟨vA, rfl, hgA, hsA, hOA⟩)
            | (go_at_call 281; refine Calls.mono (Calls.rel2 (w0 := wr) (by assumption) (imageBy_ok P hP _ _ _ i _ Any Any hi (PresP.sub (PresP.ext hpr (by assumption)) (fun _ _ _ => trivial)) (Ints.sub (Ints.ext hpii (by assumption)) (fun _ _ _ => trivial)) HX.out.2.1)) ?_; rintro eF wF ⟨vF, rfl, hgF, hgF2, hsF, hOF⟩; have hOA2 := (hOA.ext0 hgF2).ints (by rw [HL.out.1]; omega); have hOF2 := hOF.ints (by rw [HL.out.2]; omega))
            | (go_at_call 167; refine Calls.mono (Calls.rel (w0 := wr) (by assumption) (sEqual_ok _ _ _ _ _ Any Any hOA2 hOF2)) ?_; rintro eB wB ⟨vB, rfl, hgB, hsB, rfl⟩))
        clear e1 e2 e3 e4 e5 e6 e7 s1 s2 b1 b2 b7 b8
        have c0 := hgB.cell RRr.out.1 (by simp)
        have c1 := hgB.cell RRr.out.2.1 (by simp)
        have c2 := hgB.cell RRr.out.2.2.1 (by simp)
        have c3 := hgB.cell RRr.out.2.2.2.1 (by simp)
        have cf0 := frozen_ext hgB (RRr.out.2.2.2.2 0) rrs
        have cf1 := frozen_ext hgB (RRr.out.2.2.2.2 1) rrs
        have cf2 := frozen_ext hgB (RRr.out.2.2.2.2 2) rrs
        have cf3 := frozen_ext hgB (RRr.out.2.2.2.2 3) rrs
        go_wp2
        refine bodyPost_ret (v := .agg #[.int .i64 1, .int .i64 i, .int .i64 J, .int .i64 0]) (by simp [results, Tryz.results193, go_sem, c0, c1, c2, c3]) rfl ⟨_, rfl, ext_set4 (grown_trans hg0 (grown_trans hg hgB)) (Nat.le_refl _) _ _ _ _, .inr ⟨fun h => eqB_false.1 HQ.out (h.c1 J (by omega) hlt), _, _, _, _, by decide, rfl⟩⟩
    -->P1
    · have hall : ∀ m, i < m → m < P.orders.length → ICond1 P i m := fun m h1 h2 => HC1.out m h1 (by omega)
      have HA1 := Lib.hid hall; clear hall HC1
      go_wp2
      clear hlt
      go_loopw [8] (fun jv wr => ∃ J : Nat, jv = .int .i64 J ∧ i + 1 ≤ J ∧ J ≤ P.orders.length ∧ Ext w0 wr ∧ ∀ m n, i < m → m < J → m < n → n < P.orders.length → ICond2 P i m n) (fun jv _ => P.orders.length - (intOf jv).toNat)
      case atStart => exact ⟨i + 1, by go_num, by omega, by omega, hg, fun m n h1 h2 => by omega⟩
      case round =>
        clear hg hJ1 hJ2
        obtain ⟨J, rfl, hJ1, hJ2, hg, hc2⟩ := hrel
        have HC2 := Lib.hid hc2; clear hc2
        by_cases hlt : J < P.orders.length
        · --<P2
          have hJb : (J : Int) < P.orders.length := by omega
          go_wp2
          go_loopw [9] (fun kv wr => ∃ K : Nat, kv = .int .i64 K ∧ J + 1 ≤ K ∧ K ≤ P.orders.length ∧ Ext w0 wr ∧ ∀ n, J < n → n < K → ICond2 P i J n) (fun kv _ => P.orders.length - (intOf kv).toNat)
          case atStart => exact ⟨J + 1, by go_num, by omega, by omega, hg, fun n h1 h2 => by omega⟩
          case round =>
            clear hg
            obtain ⟨K, rfl, hK1, hK2, hg, hc3⟩ := hrel
            have HC3 := Lib.hid hc3; clear hc3
            by_cases hltK : K < P.orders.length
            · have hpr := hp0.ext hg
              obtain ⟨ac, capc, hcc, hci⟩ := hpr.conjAt
              obtain ⟨bc, oc, ac2, capc2, rfl, _, _, hcci, hcii⟩ := Rows3.at hci i hic
              obtain ⟨bd, od, ad2, capd2, rfl, _, _, hcd, hid⟩ := Rows2.at hcii (J - i - 1) (by rw [HCV.out.1]; omega)
              obtain ⟨bd2, od2, ad3, capd3, hbd2, _, _, hcdK, hidK⟩ := Rows2.at hcii (K - i - 1) (by rw [HCV.out.1]; omega)
              obtain ⟨rfl, rfl⟩ : bd2 = bd ∧ od2 = od := by cases hbd2; exact ⟨rfl, rfl⟩
              have hcvJ := (hP.cv J hlt)
              obtain ⟨bc5, oc5, ac5, capc5, hbc5, _, _, hccJ, hciJ⟩ := Rows3.at hci J (by have := HCL.out; omega)
              obtain ⟨rfl, rfl⟩ : bc5 = bc ∧ oc5 = oc := by cases hbc5; exact ⟨rfl, rfl⟩
              obtain ⟨bd6, od6, ad6, capd6, rfl, _, _, hcdJ, hidJ⟩ := Rows2.at hciJ (K - J - 1) (by rw [hcvJ.1]; omega)
              clear hbd2 hbc5
              have e3 : ∀ w', Ext wr w' → w'.cell? ⟨pb, po + 2, none⟩ = some (.slice (some ⟨bc5, oc5, none⟩) P.conj.length capc) := fun w' h => h.cell hcc (by simp)
              have e6 : ∀ w', Ext wr w' → w'.cell? ⟨bc5, oc5 + i, none⟩ = some (.slice (some ⟨bd2, od2, none⟩) (gt P.conj i).length capc2) := fun w' h => h.cell hcci (by simp)
              have e7 : ∀ w', Ext wr w' → w'.cell? ⟨bd2, od2 + (J - i - 1), none⟩ = some (.slice ad2 (gt (gt P.conj i) (J - i - 1)).length capd2) := fun w' h => h.cell hcd (by simp)
              have e8 : ∀ w', Ext wr w' → w'.cell? ⟨bd2, od2 + (K - i - 1), none⟩ = some (.slice ad3 (gt (gt P.conj i) (K - i - 1)).length capd3) := fun w' h => h.cell hcdK (by simp)
              have e9 : ∀ w', Ext wr w' → w'.cell? ⟨bc5, oc5 + J, none⟩ = some (.slice (some ⟨bd6, od6, none⟩) (gt P.conj J).length capc5) := fun w' h => h.cell hccJ (by simp)
              have e10 : ∀ w', Ext wr w' → w'.cell? ⟨bd6, od6 + (K - J - 1), none⟩ = some (.slice ad6 (gt (gt P.conj J) (K - J - 1)).length capd6) := fun w' h => h.cell hcdJ (by simp)
              have b1 : (0 : Int) ≤ (J : Int) - i - 1 := by omega
              have b2 : (J : Int) - i - 1 < (gt P.conj i).length := by rw [HCV.out.1]; omega
              have b3 : (i : Int) < P.conj.length := by omega
              have b4 : (J : Int) < P.conj.length := by have := HCL.out; omega
              have b7 : ((J : Int) - i - 1).toNat = J - i - 1 := by omega
              have b8 : (1 : Int) ≤ (J : Int) - i := by omega
              have k1 : (0 : Int) ≤ (K : Int) - i - 1 := by omega
              have k2 : (K : Int) - i - 1 < (gt P.conj i).length := by rw [HCV.out.1]; omega
              have k7 : ((K : Int) - i - 1).toNat = K - i - 1 := by omega
              have k8 : (1 : Int) ≤ (K : Int) - i := by omega
              have m1 : (0 : Int) ≤ (K : Int) - J - 1 := by omega
              have m2 : (K : Int) - J - 1 < (gt P.conj J).length := by rw [hcvJ.1]; omega
              have m7 : ((K : Int) - J - 1).toNat = K - J - 1 := by omega
              have m8 : (1 : Int) ≤ (K : Int) - J := by omega
              have b5 : (K : Int) < P.orders.length := by omega
              have s1 : IntKind.i64.wrap ((J : Int) - i) = (J : Int) - i := IntWalk.i64_in _ (by omega)
              have s2 : IntKind.i64.wrap ((J : Int) - i - 1) = (J : Int) - i - 1 := IntWalk.i64_in _ (by omega)
              have s3 : IntKind.i64.wrap ((K : Int) - i) = (K : Int) - i := IntWalk.i64_in _ (by omega)
              have s4 : IntKind.i64.wrap ((K : Int) - i - 1) = (K : Int) - i - 1 := IntWalk.i64_in _ (by omega)
              have s5 : IntKind.i64.wrap ((K : Int) - J) = (K : Int) - J := IntWalk.i64_in _ (by omega)
              have s6 : IntKind.i64.wrap ((K : Int) - J - 1) = (K : Int) - J - 1 := IntWalk.i64_in _ (by omega)
              have hvJ := (HCV.out.2 (J - i - 1) (by omega)).1
              have hvK := (HCV.out.2 (K - i - 1) (by omega)).1
              have hvJK := (hcvJ.2 (K - J - 1) (by omega)).1
              have HX := Lib.hid (And.intro hvK (And.intro hvJ hvJK)); clear hvJ hvK hvJK hcvJ
              have hl1 := (iConj_vec hP _ _ HX.out.1 HX.out.2.1).1
              have hl2 := (iImg_vec hP i hi _ HX.out.2.2).1
              have HL := Lib.hid (And.intro hl1 hl2); clear hl1 hl2
              clear hcc hcci hcd hcdK hccJ hcdJ hci hcii hciJ
              have rr0 := hg.cell RR.out.1 (by simp)
              have rr1 := hg.cell RR.out.2.1 (by simp)
              have rr2 := hg.cell RR.out.2.2.1 (by simp)
              have rr3 := hg.cell RR.out.2.2.2.1 (by simp)
              have rrf := fun k => frozen_ext hg (RR.out.2.2.2.2 k) rs
              have rrs : w.heap.size < wr.heap.size := Nat.lt_of_lt_of_le rs hg.size
              have RRr := Lib.hid (And.intro rr0 (And.intro rr1 (And.intro rr2 (And.intro rr3 rrf)))); clear rr0 rr1 rr2 rr3 rrf
              go_wp2
              cases hq : eqB (iConj P (gt (gt P.conj i) (K - i - 1)) (gt (gt P.conj i) (J - i - 1))) (iImg P i (gt (gt P.conj J) (K - J - 1))) with
              | true =>
                have HQ := Lib.hid hq
                go_region_held3 (fun w' => Ext wr w') (first | exact grown_drew _ _ | assumption)
                  (first
                    | (go_at_call 189; refine Calls.mono (Calls.rel (w0 := wr) (by assumption) (conjugate_ok P hP _ _ _ _ _ _ Any Any Any (PresP.sub (PresP.ext hpr (by assumption)) (fun _ _ _ => trivial)) (Ints.sub (Ints.ext hidK (by assumption)) (fun _ _ _ => trivial)) (Ints.sub (Ints.ext hid (by assumption)) (fun _ _ _ => trivial)) HX.out.1 HX.out.2.1)) ?_; rintro eA wA ⟨vA, rfl, hgA, hsA, hOA⟩)
                    | (go_at_call 281; refine Calls.mono (Calls.rel2 (w0 := wr) (by assumption) (imageBy_ok P hP _ _ _ i _ Any Any hi (PresP.sub (PresP.ext hpr (by assumption)) (fun _ _ _ => trivial)) (Ints.sub (Ints.ext hidJ (by assumption)) (fun _ _ _ => trivial)) HX.out.2.2)) ?_; rintro eF wF ⟨vF, rfl, hgF, hgF2, hsF, hOF⟩; have hOA2 := (hOA.ext0 hgF2).ints (by rw [HL.out.1]; omega); have hOF2 := hOF.ints (by rw [HL.out.2]; omega))
                    | (go_at_call 167; refine Calls.mono (Calls.rel (w0 := wr) (by assumption) (sEqual_ok _ _ _ _ _ Any Any hOA2 hOF2)) ?_; rintro eB wB ⟨vB, rfl, hgB, hsB, rfl⟩))
                clear e3 e6 e7 e8 e9 e10 s1 s2 s3 s4 s5 s6 b1 b2 b7 b8 k1 k2 k7 k8 m1 m2 m7 m8
                go_wp2
                go_roundw
                case rel => exact ⟨K + 1, by go_num, by omega, by omega, grown_trans hg hgB, fun n h1 h2 => by
                  rcases Nat.lt_or_ge n K with h3 | h3
                  · exact HC3.out n h1 h3
                  · have : n = K := by omega
                    rw [this]; exact eqB_true.1 HQ.out⟩
                case measure => simp [intOf]; omega
              | false =>
                have HQ := Lib.hid hq
                go_region_held3 (fun w' => Ext wr w') (first | exact grown_drew _ _ | assumption)
                  (first
                    | (go_at_call 189; refine Calls.mono (Calls.rel (w0 := wr) (by assumption) (conjugate_ok P hP _ _ _ _ _ _ Any Any Any (PresP.sub (PresP.ext hpr (by assumption)) (fun _ _ _ => trivial)) (Ints.sub (Ints.ext hidK (by assumption)) (fun _ _ _ => trivial)) (Ints.sub (Ints.ext hid (by assumption)) (fun _ _ _ => trivial)) HX.out.1 HX.out.2.1)) ?_; rintro eA wA ⟨vA, rfl, hgA, hsA, hOA⟩)
                    | (go_at_call 281; refine Calls.mono (Calls.rel2 (w0 := wr) (by assumption) (imageBy_ok P hP _ _ _ i _ Any Any hi (PresP.sub (PresP.ext hpr (by assumption)) (fun _ _ _ => trivial)) (Ints.sub (Ints.ext hidJ (by assumption)) (fun _ _ _ => trivial)) HX.out.2.2)) ?_; rintro eF wF ⟨vF, rfl, hgF, hgF2, hsF, hOF⟩; have hOA2 := (hOA.ext0 hgF2).ints (by rw [HL.out.1]; omega); have hOF2 := hOF.ints (by rw [HL.out.2]; omega))
                    | (go_at_call 167; refine Calls.mono (Calls.rel (w0 := wr) (by assumption) (sEqual_ok _ _ _ _ _ Any Any hOA2 hOF2)) ?_; rintro eB wB ⟨vB, rfl, hgB, hsB, rfl⟩))
                clear e3 e6 e7 e8 e9 e10 s1 s2 s3 s4 s5 s6 b1 b2 b7 b8 k1 k2 k7 k8 m1 m2 m7 m8
                have c0 := hgB.cell RRr.out.1 (by simp)
                have c1 := hgB.cell RRr.out.2.1 (by simp)
                have c2 := hgB.cell RRr.out.2.2.1 (by simp)
                have c3 := hgB.cell RRr.out.2.2.2.1 (by simp)
                have cf0 := frozen_ext hgB (RRr.out.2.2.2.2 0) rrs
                have cf1 := frozen_ext hgB (RRr.out.2.2.2.2 1) rrs
                have cf2 := frozen_ext hgB (RRr.out.2.2.2.2 2) rrs
                have cf3 := frozen_ext hgB (RRr.out.2.2.2.2 3) rrs
                go_wp2
                refine bodyPost_ret (v := .agg #[.int .i64 2, .int .i64 i, .int .i64 J, .int .i64 K]) (by simp [results, Tryz.results193, go_sem, c0, c1, c2, c3]) rfl ⟨_, rfl, ext_set4 (grown_trans hg0 (grown_trans hg hgB)) (Nat.le_refl _) _ _ _ _, .inr ⟨fun h => eqB_false.1 HQ.out (h.c2 J K (by omega) (by omega) hltK), _, _, _, _, by decide, rfl⟩⟩
            · have hKe : K = P.orders.length := by omega
              go_wp2
              go_roundw
              case rel => exact ⟨J + 1, by go_num, by omega, by omega, hg, fun m n h1 h2 h3 h4 => by
                  rcases Nat.lt_or_ge m J with h5 | h5
                  · exact HC2.out m n h1 h5 h3 h4
                  · have : m = J := by omega
                    subst this; exact HC3.out n h3 (by omega)⟩
              case measure => simp [intOf]; omega
        -->P2
        · have hall2 : ∀ m n, i < m → m < n → n < P.orders.length → ICond2 P i m n := fun m n h1 h2 h3 => HC2.out m n h1 (by omega) h2 h3
          have HA2 := Lib.hid hall2; clear hall2 HC2
          obtain ⟨ap0, capp0, hcp0, hpi0⟩ := hp0.powAt
          obtain ⟨bp, op, ap2, capp2, rfl, _, _, hcpi0, hpii0⟩ := Rows2.at hpi0 i hip
          have hcp := hg.cell hcp0 (by simp)
          have hcpi := hg.cell hcpi0 (by simp)
          have hlw := (iImg_vec hP i hi _ HVW.out).1
          have HLW := Lib.hid hlw; clear hlw hpi0
          have rr0 := hg.cell RR.out.1 (by simp)
          have rr1 := hg.cell RR.out.2.1 (by simp)
          have rr2 := hg.cell RR.out.2.2.1 (by simp)
          have rr3 := hg.cell RR.out.2.2.2.1 (by simp)
          have rrf := fun k => frozen_ext hg (RR.out.2.2.2.2 k) rs
          have rrs : w.heap.size < wr.heap.size := Nat.lt_of_lt_of_le rs hg.size
          have RRr := Lib.hid (And.intro rr0 (And.intro rr1 (And.intro rr2 (And.intro rr3 rrf)))); clear rr0 rr1 rr2 rr3 rrf
          go_wp2_with fail
          refine Calls.mono (imageBy_ok P hP wr _ _ i _ Any Any hi (PresP.sub (hp0.ext hg) (fun _ _ _ => trivial)) (Ints.sub (Ints.ext hpii0 hg) (fun _ _ _ => trivial)) HVW.out) ?_
          rintro eA wA ⟨vA, rfl, hgA, hOA⟩
          go_wp2_with fail
          refine Calls.mono (sEqual_ok _ _ _ _ wA Any Any (hOA.ints (by rw [HLW.out]; omega)) (Ints.sub (Ints.ext hpii0 (grown_trans hg hgA)) (fun _ _ _ => trivial))) ?_
          rintro eB wB ⟨vB, rfl, hgAB, rfl⟩
          have hgB : Ext wr wB := grown_trans hgA hgAB
          cases hq : eqB (iImg P i (gt P.powers i)) (gt P.powers i) with
          | false =>
            have HQ := Lib.hid hq
            have c0 := hgB.cell RRr.out.1 (by simp)
            have c1 := hgB.cell RRr.out.2.1 (by simp)
            have c2 := hgB.cell RRr.out.2.2.1 (by simp)
            have c3 := hgB.cell RRr.out.2.2.2.1 (by simp)
            have cf0 := frozen_ext hgB (RRr.out.2.2.2.2 0) rrs
            have cf1 := frozen_ext hgB (RRr.out.2.2.2.2 1) rrs
            have cf2 := frozen_ext hgB (RRr.out.2.2.2.2 2) rrs
            have cf3 := frozen_ext hgB (RRr.out.2.2.2.2 3) rrs
            go_wp2
            refine bodyPost_ret (v := .agg #[.int .i64 3, .int .i64 i, .int .i64 0, .int .i64 0]) (by simp [results, Tryz.results193, go_sem, c0, c1, c2, c3]) rfl ⟨_, rfl, ext_set4 (grown_trans hg0 (grown_trans hg hgB)) (Nat.le_refl _) _ _ _ _, .inr ⟨fun h => eqB_false.1 HQ.out h.c3, _, _, _, _, by decide, rfl⟩⟩
          | true =>
            have HQ := Lib.hid (eqB_true.1 hq)
            have hgw := grown_trans hg hgB
            clear hcp hcpi
            go_wp2
            clear hq
            have hpii : Ints Sp w0 (.slice ap2 (gt P.powers i).length capp2) (gt P.powers i) := hpii0
            go_loopw [11] (fun jv wr => ∃ J : Nat, jv = .int .i64 J ∧ i + 1 ≤ J ∧ J ≤ P.orders.length ∧ Ext w0 wr ∧ ∀ m, i < m → m < J → ICond4 P i m) (fun jv _ => P.orders.length - (intOf jv).toNat)
            case atStart => exact ⟨i + 1, by go_num, by omega, by omega, hgw, fun m h1 h2 => by omega⟩
            case round =>
              clear hg hgA hgB hgw hOA hJ1 hJ2 RRr rrs hgAB hlt
              obtain ⟨J, rfl, hJ1, hJ2, hg, hc4⟩ := hrel
              have HC4 := Lib.hid hc4; clear hc4
              have rr0 := hg.cell RR.out.1 (by simp)
              have rr1 := hg.cell RR.out.2.1 (by simp)
              have rr2 := hg.cell RR.out.2.2.1 (by simp)
              have rr3 := hg.cell RR.out.2.2.2.1 (by simp)
              have rrf := fun k => frozen_ext hg (RR.out.2.2.2.2 k) rs
              have rrs : w.heap.size < wr.heap.size := Nat.lt_of_lt_of_le rs hg.size
              have RRr := Lib.hid (And.intro rr0 (And.intro rr1 (And.intro rr2 (And.intro rr3 rrf)))); clear rr0 rr1 rr2 rr3 rrf
              by_cases hlt : J < P.orders.length
              · have hJb : (J : Int) < P.orders.length := by omega
                go_wp2_with fail
                refine Calls.mono (unitVector_ok P.orders.length J wr hlt (by omega)) ?_
                rintro eU wU ⟨vU, rfl, hgU, hOU⟩
                obtain ⟨ao5, capo5, hco, hoi⟩ := (hp0.ext (grown_trans hg hgU)).ordAt
                obtain ⟨bo, oo, rfl, _, _, hcoi⟩ := Ints.at hoi i hi
                have hUi := hOU.ints (by rw [(unitV_vec hP J).1]; omega)
                have hoi7 := hP.ord7 i hi
                have ho0 : 0 ≤ gt P.orders i := by omega
                have ho1 : gt P.orders i ≤ 7 := hoi7.2
                clear hoi7
                go_wp2
                clear hco hcoi hoi
                obtain ⟨wo, rfl⟩ : ∃ wo : World, wo = wr := ⟨_, rfl⟩
                go_loopw [12, 160] (fun xv mv w2 => ∃ m : Nat, mv = .int .i64 m ∧ m ≤ (gt P.orders i).toNat ∧ Ext wo w2 ∧ Ints Any w2 xv (iter m (fun x => iImg P i x) (unitV P.orders.length J))) (fun _ mv _ => (gt P.orders i).toNat - (intOf mv).toNat)
                case atStart => exact ⟨0, rfl, by omega, hgU, hUi⟩
                case round =>
                  obtain ⟨m, rfl, hm, hg2, hX⟩ := hrel
                  have hvX : Vec P.orders (iter m (fun x => iImg P i x) (unitV P.orders.length J)) := iter_inv (Vec P.orders) _ (fun y hy => iImg_vec hP i hi y hy) _ _ (unitV_vec hP J)
                  have HVX := Lib.hid hvX; clear hvX
                  by_cases hlt2 : (m : Int) < gt P.orders i
                  · go_wp2_with fail
                    refine Calls.mono (imageBy_ok P hP wr _ _ i _ Any Any hi (PresP.sub (hp0.ext (grown_trans hg hg2)) (fun _ _ _ => trivial)) hX HVX.out) ?_
                    rintro eA wA ⟨vA, rfl, hgA, hOA⟩
                    have hvn := iImg_vec hP i hi _ HVX.out
                    have hOAi := hOA.ints (by rw [hvn.1]; omega)
                    clear hvn
                    go_wp2
                    go_roundw
                    case rel => exact ⟨m + 1, by go_num, by omega, grown_trans hg2 hgA, hOAi⟩
                    case measure => simp [intOf]; omega
                  · have hme : m = (gt P.orders i).toNat := by omega
                    have hlU := (unitV_vec hP J).1
                    have hlX := HVX.out.1
                    have hlC := (iConj_vec hP _ _ (unitV_vec hP J) HVW.out).1
                    have HLs := Lib.hid (And.intro hlU (And.intro hlX hlC)); clear hlU hlX hlC
                    have hX2 : Ints Any wr u12 (iter (gt P.orders i).toNat (fun x => iImg P i x) (unitV P.orders.length J)) := by rw [← hme]; exact hX
                    have hlX2 : (iter (gt P.orders i).toNat (fun x => iImg P i x) (unitV P.orders.length J)).length = P.orders.length := by rw [← hme]; exact HLs.out.2.1
                    have HLX2 := Lib.hid hlX2; clear hlX2 hX
                    go_wp2_with fail
                    refine Calls.mono (unitVector_ok P.orders.length J wr hlt (by omega)) ?_
                    rintro eV wV ⟨vV, rfl, hgV, hOV⟩
                    go_wp2_with fail
                    refine Calls.mono (conjugate_ok P hP wV _ _ _ (unitV P.orders.length J) (gt P.powers i) Any Any Any (PresP.sub (hp0.ext (grown_trans hg (grown_trans hg2 hgV))) (fun _ _ _ => trivial)) (hOV.ints (by rw [HLs.out.1]; omega)) (Ints.sub (Ints.ext hpii (grown_trans hg (grown_trans hg2 hgV))) (fun _ _ _ => trivial)) (unitV_vec hP J) HVW.out) ?_
                    rintro eC wC ⟨vC, rfl, hgC, hOC⟩
                    go_wp2_with fail
                    refine Calls.mono (sEqual_ok _ _ _ _ wC Any Any (hX2.ext (grown_trans hgV hgC)) (hOC.ints (by rw [HLs.out.2.2]; omega))) ?_
                    rintro eB wB ⟨vB, rfl, hgCB, rfl⟩
                    have hgB : Ext wo wB := grown_trans hg2 (grown_trans hgV (grown_trans hgC hgCB))
                    cases hq : eqB (iter (gt P.orders i).toNat (fun x => iImg P i x) (unitV P.orders.length J)) (iConj P (unitV P.orders.length J) (gt P.powers i)) with
                    | true =>
                      have HQ4 := Lib.hid hq
                      go_wp2
                      go_roundw
                      case rel => exact ⟨J + 1, by go_num, by omega, by omega, grown_trans hg hgB, fun m h1 h2 => by
                        rcases Nat.lt_or_ge m J with h3 | h3
                        · exact HC4.out m h1 h3
                        · have : m = J := by omega
                          rw [this]; exact eqB_true.1 HQ4.out⟩
                      case measure => simp [intOf]; omega
                    | false =>
                      have HQ4 := Lib.hid hq
                      have c0 := hgB.cell RRr.out.1 (by simp)
                      have c1 := hgB.cell RRr.out.2.1 (by simp)
                      have c2 := hgB.cell RRr.out.2.2.1 (by simp)
                      have c3 := hgB.cell RRr.out.2.2.2.1 (by simp)
                      have cf0 := frozen_ext hgB (RRr.out.2.2.2.2 0) rrs
                      have cf1 := frozen_ext hgB (RRr.out.2.2.2.2 1) rrs
                      have cf2 := frozen_ext hgB (RRr.out.2.2.2.2 2) rrs
                      have cf3 := frozen_ext hgB (RRr.out.2.2.2.2 3) rrs
                      go_wp2
                      refine bodyPost_ret (v := .agg #[.int .i64 4, .int .i64 i, .int .i64 J, .int .i64 0]) (by simp [results, Tryz.results193, go_sem, c0, c1, c2, c3]) rfl ⟨_, rfl, ext_set4 (grown_trans hg0 (grown_trans hg hgB)) (Nat.le_refl _) _ _ _ _, .inr ⟨fun h => eqB_false.1 HQ4.out (h.c4 J (by omega) hlt), _, _, _, _, by decide, rfl⟩⟩
              · have hJe : J = P.orders.length := by omega
                subst hJe
                have c0 := RRr.out.1
                have c1 := RRr.out.2.1
                have c2 := RRr.out.2.2.1
                have c3 := RRr.out.2.2.2.1
                have cf0 := RRr.out.2.2.2.2 0
                have cf1 := RRr.out.2.2.2.2 1
                have cf2 := RRr.out.2.2.2.2 2
                have cf3 := RRr.out.2.2.2.2 3
                go_wp2
                refine bodyPost_ret (v := .agg #[.int .i64 0, .int .i64 0, .int .i64 0, .int .i64 0]) (by simp [results, Tryz.results193, go_sem, c0, c1, c2, c3]) rfl ⟨_, rfl, ext_set4 (grown_trans hg0 hg) (Nat.le_refl _) _ _ _ _, .inl ⟨⟨HA1.out, HA2.out, HQ.out, HC4.out⟩, rfl⟩⟩

end Go.Proofs.YtldheeicjnncoaaGreat
