/-
  Plain: Hall's theorem: subgroups for a set of primes exist, and every subgroup whose order has only these primes lies in a conjugate of a given one.
  impl.isMember.
  impl.conjugates, impl.conjugateSubgroup.
  impl.isNormal.
  Plain: the greatest normal subgroup within a subgroup.
  Maps that a call makes, by a general reading: what stands under each key.
  impl.keyOf: the bytes of all entries, each row closed by a semicolon.
  The lattice's maps: masks seen; the mask of a key.
  append of one integer inside a region that draws its order.
  The lattice behind a pointer.
  The list of all subgroups as one value; its bounds.
  Plain: the conjugates of a subgroup, as sequences and as masks; the classes of conjugate subgroups.
  Plain: Hall subgroups as sequences: the orders, the way up to one, their one class, the one ascending list.
  The reference's power with any exponent: spec.l10Pow.
  Rows of bools of the call's own; a region that ends in a store.
  The reference's tables by depths: spec.l02Lead, l12Depth, l12Table; how a table reads.
  The reference's reduced sequence: spec.l12Full.
  The reference's sifting: spec.l12Strip.
  The reference's closure: spec.l01Own2, l01Inv, l10Comm, l12Close.
-/
import Derived.Test.YtdklekdpdbjfiaaGreatK5
import Derived.Test.YtdklekdpdbjfiaaGreatK2
import Derived.Maps.OwnSet
import Derived.Maps.StringElems
import Derived.StringKeys
import Derived.Test.YtdklekdpdbjfiaaGreatK4
import Derived.Laws.BytesArg
import Derived.Test.YtdklekdpdbjfiaaGreatK3
/- Plain: Hall's theorem: subgroups for a set of primes exist, and every subgroup whose order has only these primes lies in a conjugate of a given one. -/
namespace Go.Proofs.YtdklekdpdbjfiaaGreat

section
variable {P : Pr} {G : Grp P}

/-- the members of L conjugate N into itself -/
def nrm (L N : El G → Prop) : Prop := ∀ g x, L g → N x → N (g⁻¹ * (x * g))

/-- M is abelian up to N -/
structure AbF (N M : El G → Prop) : Prop where
  sn : SG N
  sm : SG M
  le : ∀ x, N x → M x
  nn : nrm M N
  ab : ∀ x y, M x → M y → N (x⁻¹ * (y⁻¹ * (x * y)))

section
variable {N M : El G → Prop} (A : AbF N M)
include A
theorem AbF.mul {x x' y y' : El G} (h : eqv N x x') (k : eqv N y y') (hy : M y) : eqv N (x * y) (x' * y') := by
  have h1 := A.sn.mul _ _ (A.nn y _ hy h) k
  unfold eqv
  have e : (x * y)⁻¹ * (x' * y') = y⁻¹ * (x⁻¹ * x' * y) * (y⁻¹ * y') := by simp only [El.mi, El.ass, El.irc]
  rw [e]; exact h1
theorem AbF.comm {x y : El G} (hx : M x) (hy : M y) : eqv N (x * y) (y * x) := by
  have h1 := A.ab y x hy hx
  unfold eqv
  rw [El.mi, El.ass]; exact h1
theorem AbF.ep {x y : El G} (hx : M x) (h : eqv N x y) : ∀ k, eqv N (ep x k) (ep y k)
  | 0 => eqv_refl A.sn _
  | k + 1 => A.mul (AbF.ep hx h k) h hx
theorem AbF.ep_mul {x y : El G} (hx : M x) (hy : M y) : ∀ k, eqv N (Go.Proofs.YtdklekdpdbjfiaaGreat.ep (x * y) k) (Go.Proofs.YtdklekdpdbjfiaaGreat.ep x k * Go.Proofs.YtdklekdpdbjfiaaGreat.ep y k)
  | 0 => by
    show eqv N (1 : El G) (1 * 1)
    rw [El.ol]; exact eqv_refl A.sn _
  | k + 1 => by
    have ih := AbF.ep_mul hx hy k
    have hxk := A.sm.ep hx k
    have hyk := A.sm.ep hy k
    have h1 := A.mul ih (eqv_refl A.sn (x * y)) (A.sm.mul _ _ hx hy)
    refine eqv_trans A.sn h1 ?_
    show eqv N (Go.Proofs.YtdklekdpdbjfiaaGreat.ep x k * Go.Proofs.YtdklekdpdbjfiaaGreat.ep y k * (x * y)) (Go.Proofs.YtdklekdpdbjfiaaGreat.ep x k * x * (Go.Proofs.YtdklekdpdbjfiaaGreat.ep y k * y))
    have h2 := A.mul (eqv_refl A.sn (Go.Proofs.YtdklekdpdbjfiaaGreat.ep x k)) (A.mul (A.comm hyk hx) (eqv_refl A.sn y) hy) (A.sm.mul _ _ (A.sm.mul _ _ hyk hx) hy)
    simpa only [El.ass] using h2
end

/-- the product of a list -/
def lp : List (El G) → El G
  | [] => 1
  | x :: l => x * lp l
theorem lp_mem {M : El G → Prop} (S : SG M) : ∀ {l : List (El G)}, (∀ x ∈ l, M x) → M (lp l)
  | [], _ => S.one
  | x :: _, h => S.mul _ _ (h x (List.mem_cons_self ..)) (lp_mem S (fun y hy => h y (List.mem_cons_of_mem _ hy)))

section
variable {N M : El G → Prop} (A : AbF N M)
include A
theorem AbF.lp_perm {l m : List (El G)} (h : l.Perm m) : (∀ x ∈ l, M x) → eqv N (lp l) (lp m) := by
  induction h with
  | nil => intro _; exact eqv_refl A.sn _
  | cons x h ih =>
    intro hm
    have hm' := fun y hy => hm y (List.mem_cons_of_mem _ hy)
    exact A.mul (eqv_refl A.sn x) (ih hm') (lp_mem A.sm hm')
  | swap x y l =>
    intro hm
    have hx := hm x (by simp)
    have hy := hm y (by simp)
    have hl := lp_mem A.sm (fun z hz => hm z (List.mem_cons_of_mem _ (List.mem_cons_of_mem _ hz)))
    have h1 := A.mul (A.comm hy hx) (eqv_refl A.sn (lp l)) hl
    show eqv N (y * (x * lp l)) (x * (y * lp l))
    simpa only [El.ass] using h1
  | trans h1 h2 ih1 ih2 =>
    intro hm
    exact eqv_trans A.sn (ih1 hm) (ih2 (fun x hx => hm x (h1.mem_iff.2 hx)))
theorem AbF.lp_congr {β : Type} {f g : β → El G} : ∀ {l : List β}, (∀ x ∈ l, M (f x)) → (∀ x ∈ l, eqv N (f x) (g x)) → eqv N (lp (l.map f)) (lp (l.map g))
  | [], _, _ => eqv_refl A.sn _
  | x :: l, h, k => by
    have h' : ∀ y ∈ l, M (f y) := fun y hy => h y (List.mem_cons_of_mem _ hy)
    refine A.mul (k x (List.mem_cons_self ..)) (AbF.lp_congr h' (fun y hy => k y (List.mem_cons_of_mem _ hy))) (lp_mem A.sm ?_)
    intro z hz
    obtain ⟨y, hy, rfl⟩ := List.mem_map.1 hz
    exact h' y hy
theorem AbF.lp_cn {β : Type} {f : β → El G} {y v : El G} (hc : ∀ x, M x → M (y⁻¹ * (x * y))) (hv : M v) : ∀ {l : List β}, (∀ x ∈ l, M (f x)) →
    eqv N (lp (l.map (fun x => y⁻¹ * (f x * y) * v))) (y⁻¹ * (lp (l.map f) * y) * Go.Proofs.YtdklekdpdbjfiaaGreat.ep v l.length)
  | [], _ => by
    show eqv N (1 : El G) (y⁻¹ * (1 * y) * 1)
    rw [El.ol, El.il, El.or]; exact eqv_refl A.sn _
  | x :: l, h => by
    have h' : ∀ y ∈ l, M (f y) := fun y hy => h y (List.mem_cons_of_mem _ hy)
    have ih := AbF.lp_cn hc hv h'
    have hL : M (lp (l.map f)) := lp_mem A.sm (fun z hz => by
      obtain ⟨y, hy, rfl⟩ := List.mem_map.1 hz
      exact h' y hy)
    have hR : M (lp (l.map (fun x => y⁻¹ * (f x * y) * v))) := lp_mem A.sm (fun z hz => by
      obtain ⟨u, hu, rfl⟩ := List.mem_map.1 hz
      exact A.sm.mul _ _ (hc _ (h' u hu)) hv)
    have hvk := A.sm.ep hv l.length
    have hW := A.sm.mul _ _ (hc _ hL) hvk
    have hx := hc _ (h x (List.mem_cons_self ..))
    have h1 := A.mul (eqv_refl A.sn (y⁻¹ * (f x * y) * v)) ih hR
    refine eqv_trans A.sn h1 ?_
    have h2 := A.mul (eqv_refl A.sn (y⁻¹ * (f x * y))) (A.comm hv hW) (A.sm.mul _ _ hv hW)
    have e1 : y⁻¹ * (f x * y) * v * (y⁻¹ * (lp (l.map f) * y) * Go.Proofs.YtdklekdpdbjfiaaGreat.ep v l.length) = y⁻¹ * (f x * y) * (v * (y⁻¹ * (lp (l.map f) * y) * Go.Proofs.YtdklekdpdbjfiaaGreat.ep v l.length)) := El.ass _ _ _
    have e2 : y⁻¹ * (lp ((x :: l).map f) * y) * Go.Proofs.YtdklekdpdbjfiaaGreat.ep v (x :: l).length = y⁻¹ * (f x * y) * (y⁻¹ * (lp (l.map f) * y) * Go.Proofs.YtdklekdpdbjfiaaGreat.ep v l.length * v) := by
      show y⁻¹ * (f x * lp (l.map f) * y) * (Go.Proofs.YtdklekdpdbjfiaaGreat.ep v l.length * v) = _
      simp only [El.ass, El.irc]
    rw [e1, e2]; exact h2
end

theorem SG.of_mul {H : El G → Prop} (h1 : H 1) (hm : ∀ x y, H x → H y → H (x * y)) : SG H := by
  refine ⟨h1, hm, fun x hx => ?_⟩
  obtain ⟨k, hk⟩ := G.inv_pw x.2
  have e : x⁻¹ = Go.Proofs.YtdklekdpdbjfiaaGreat.ep x k := Subtype.ext (hk.trans (ep_val x k).symm)
  rw [e]
  have : ∀ k, H (Go.Proofs.YtdklekdpdbjfiaaGreat.ep x k) := fun k => by
    induction k with
    | zero => exact h1
    | succ k ih => exact hm _ _ ih hx
  exact this k

/-- the product of a subgroup and a normal one -/
def prS (A N : El G → Prop) (x : El G) : Prop := ∃ a n, A a ∧ N n ∧ x = a * n
theorem prS_sg {A N : El G → Prop} (SA : SG A) (SN : SG N) (h : nrm A N) : SG (prS A N) := by
  refine ⟨⟨1, 1, SA.one, SN.one, (El.ol _).symm⟩, ?_, ?_⟩
  · rintro x y ⟨a, n, ha, hn, rfl⟩ ⟨b, m, hb, hm, rfl⟩
    refine ⟨a * b, b⁻¹ * (n * b) * m, SA.mul _ _ ha hb, SN.mul _ _ (h b n hb hn) hm, ?_⟩
    simp only [El.ass, El.irc]
  · rintro x ⟨a, n, ha, hn, rfl⟩
    refine ⟨a⁻¹, a⁻¹⁻¹ * (n⁻¹ * a⁻¹), SA.inv _ ha, h _ _ (SA.inv _ ha) (SN.inv _ hn), ?_⟩
    rw [El.mi, El.irc]
theorem prS_ep {A N : El G → Prop} (SN : SG N) (h : nrm A N) {a n : El G} (ha : A a) (hn : N n) : ∀ k, ∃ m, N m ∧ ep (a * n) k = ep a k * m
  | 0 => ⟨1, SN.one, (El.or _).symm⟩
  | k + 1 => by
    obtain ⟨m, hm, e⟩ := prS_ep SN h ha hn k
    refine ⟨a⁻¹ * (m * a) * n, SN.mul _ _ (h a m ha hm) hn, ?_⟩
    show ep (a * n) k * (a * n) = ep a k * a * _
    rw [e]
    simp only [El.ass, El.irc]

/-- the orders at the depths of the primes of a set; of the others -/
noncomputable def aP (P : Pr) (π : Int → Prop) : Nat := prd P (fun d => π (gt P.orders d)) P.orders.length 0
noncomputable def bP (P : Pr) (π : Int → Prop) : Nat := prd P (fun d => ¬ π (gt P.orders d)) P.orders.length 0
theorem ab_cop (G : Grp P) (π : Int → Prop) : Nat.Coprime (aP P π) (bP P π) :=
  prd_cop G _ _ (Nat.zero_add _) (fun _ _ _ _ h1 h2 e => h2 (e ▸ h1))
theorem a_ndvd (G : Grp P) {π : Int → Prop} {d : Nat} (hd : d < P.orders.length) (h : ¬ π (gt P.orders d)) : Nat.Coprime (gt P.orders d).toNat (aP P π) := by
  obtain ⟨q, h1, h2, h3⟩ := ordN G hd
  refine prd_cop1 G (by rw [h2]; exact h3) _ _ (Nat.zero_add _) (fun k hk hp e => h ?_)
  obtain ⟨r, g1, g2, _⟩ := ordN G hk
  have : gt P.orders d = gt P.orders k := by omega
  rw [this]; exact hp
theorem b_ndvd (G : Grp P) {π : Int → Prop} {d : Nat} (hd : d < P.orders.length) (h : π (gt P.orders d)) : Nat.Coprime (gt P.orders d).toNat (bP P π) := by
  obtain ⟨q, h1, h2, h3⟩ := ordN G hd
  refine prd_cop1 G (by rw [h2]; exact h3) _ _ (Nat.zero_add _) (fun k hk hp e => hp ?_)
  obtain ⟨r, g1, g2, _⟩ := ordN G hk
  have : gt P.orders k = gt P.orders d := by omega
  rw [this]; exact h
theorem cop_ndvd {G : Grp P} {d k : Nat} (hd : d < P.orders.length) (h : Nat.Coprime (gt P.orders d).toNat k) : ¬ (gt P.orders d).toNat ∣ k := fun hk => by
  obtain ⟨q, h1, h2, h3⟩ := ordN G hd
  have := Nat.Coprime.eq_one_of_dvd h hk
  omega
theorem ep_order {d : Nat} (hd : d < P.orders.length) {x : El G} (h : dT d x) : dT (d + 1) (ep x (gt P.orders d).toNat) := by
  have := G.pw_order hd (dT_T.1 h)
  rw [dT_T, ep_val]; exact this
theorem ep_all (x : El G) (π : Int → Prop) : ep x (aP P π * bP P π) = 1 := by
  have key : ∀ f d (x : El G), d + f = P.orders.length → dT d x → ep x (prd P (fun _ => True) f d) = 1 := by
    intro f
    induction f with
    | zero =>
      intro d x hd hT
      have : d = P.orders.length := by omega
      subst this
      rw [dT_top hT]; exact ep_one _
    | succ f ih =>
      intro d x hd hT
      rw [prd, if_pos trivial, ep_mul]
      exact ih (d + 1) _ (by omega) (ep_order (by omega) hT)
  have e : aP P π * bP P π = prd P (fun _ => True) P.orders.length 0 := by
    unfold aP bP
    rw [prd_mul _ _ (fun k _ _ h1 h2 => h2 h1)]
    exact prd_congr _ _ (fun k _ _ => ⟨fun _ => trivial, fun _ => Classical.em _⟩)
  rw [e]
  exact key _ 0 x (Nat.zero_add _) (dT_zero x)
/-- the depths of B beyond N divide the exponent of B up to N -/
theorem pv_of_exp {N B : El G → Prop} {k d : Nat} (h : ∀ x, B x → N (ep x k)) (hd : pv B d) (hn : ¬ pv N d) : (gt P.orders d).toNat ∣ k := by
  refine Classical.byContradiction fun hk => hn ?_
  obtain ⟨h1, x, hx, hT, h0⟩ := hd
  exact ⟨h1, _, h x hx, ep_dT (Nat.le_of_lt h1) hT k, lead_ne h1 hT h0 hk⟩
theorem exp_of_pv {B : El G → Prop} (S : SG B) {π : Int → Prop} (h : ∀ d, pv B d → π (gt P.orders d)) {x : El G} (hx : B x) : ep x (aP P π) = 1 := by
  have key : ∀ f d (x : El G), d + f = P.orders.length → B x → dT d x → ep x (prd P (fun d => π (gt P.orders d)) f d) = 1 := by
    intro f
    induction f with
    | zero =>
      intro d x hd _ hT
      have : d = P.orders.length := by omega
      subst this
      rw [dT_top hT]; exact ep_one _
    | succ f ih =>
      intro d x hd hx hT
      rw [prd]
      by_cases hp : π (gt P.orders d)
      · rw [if_pos hp, ep_mul]
        exact ih (d + 1) _ (by omega) (S.ep hx _) (ep_order (by omega) hT)
      · rw [if_neg hp, Nat.one_mul]
        exact ih (d + 1) x (by omega) hx (dT_up hT (Classical.byContradiction fun h0 => hp (h d ⟨by omega, x, hx, hT, h0⟩)))
  exact key _ 0 x (Nat.zero_add _) hx (dT_zero x)

/-- up to N: a subgroup of L for the primes of a set lies in a conjugate of a greatest one -/
def Dom (L N : El G → Prop) (π : Int → Prop) : Prop := ∀ A B : El G → Prop, SG A → SG B → (∀ x, N x → A x) → (∀ x, N x → B x) → (∀ x, A x → L x) → (∀ x, B x → L x) →
  (∀ x, A x → N (ep x (aP P π))) → (∀ x, B x → N (ep x (aP P π))) → (∀ d, pv L d → ¬ pv A d → ¬ π (gt P.orders d)) → ∃ g, L g ∧ ∀ x, B x → A (g⁻¹ * (x * g))

theorem dom_top {L : El G → Prop} (S : SG L) (π : Int → Prop) : Dom L L π := fun A B _ _ hA _ _ hB _ _ _ =>
  ⟨1, S.one, fun x hx => by rw [El.or, El.io, El.ol]; exact hA x (hB x hx)⟩

theorem nrm_mono {L K N : El G → Prop} (h : nrm L N) (hk : ∀ x, K x → L x) : nrm K N := fun g x hg hx => h g x (hk g hg) hx

/-- a factor for the primes of the set -/
theorem dom_in {L N M : El G → Prop} {π : Int → Prop} (SM : SG M) (hML : ∀ x, M x → L x) (SL : SG L) (hNM : ∀ x, N x → M x) (nM : nrm L M) (he : ∀ x, M x → N (ep x (aP P π))) (h : Dom L M π) : Dom L N π := by
  intro A B SA SB hNA hNB hAL hBL eA eB hH
  have nA := nrm_mono nM hAL
  have nB := nrm_mono nM hBL
  have SA' := prS_sg SA SM nA
  have SB' := prS_sg SB SM nB
  have hAA : ∀ x, A x → prS A M x := fun x hx => ⟨x, 1, hx, SM.one, (El.or x).symm⟩
  have hBB : ∀ x, B x → prS B M x := fun x hx => ⟨x, 1, hx, SM.one, (El.or x).symm⟩
  have hex : ∀ {C : El G → Prop}, nrm C M → (∀ x, C x → N (ep x (aP P π))) → ∀ x, prS C M x → M (ep x (aP P π)) := by
    rintro C nC eC x ⟨a, n, ha, hn, rfl⟩
    obtain ⟨m, hm, e⟩ := prS_ep SM nC ha hn (aP P π)
    rw [e]; exact SM.mul _ _ (hNM _ (eC a ha)) hm
  have hsub : ∀ {C : El G → Prop}, (∀ x, C x → L x) → ∀ x, prS C M x → L x := by
    rintro C hC x ⟨a, n, ha, hn, rfl⟩
    exact SL.mul _ _ (hC a ha) (hML n hn)
  obtain ⟨g, hg, hgB⟩ := h _ _ SA' SB' (fun x hx => ⟨1, x, SA.one, hx, (El.ol x).symm⟩) (fun x hx => ⟨1, x, SB.one, hx, (El.ol x).symm⟩) (hsub hAL) (hsub hBL) (hex nA eA) (hex nB eB)
    (fun d hd hn => hH d hd (fun hp => hn (pv_mono hAA hp)))
  have hle : ∀ x, prS A M x → A x := by
    refine le_of_pv SA SA' hAA (fun d hd => Classical.byContradiction fun hn => ?_)
    have hnp := hH d (pv_mono (hsub hAL) hd) hn
    have hc := a_ndvd G hd.1 hnp
    have h2 : ∀ x, prS A M x → A (ep x (aP P π * aP P π)) := fun x hx => by
      rw [ep_mul]; exact hNA _ (he _ (hex nA eA x hx))
    exact cop_ndvd (G := G) hd.1 (Nat.Coprime.mul_right hc hc) (pv_of_exp h2 hd hn)
  exact ⟨g, hg, fun x hx => hle _ (hgB x (hBB x hx))⟩

/-- an inverse up to a number -/
theorem cop_inv : ∀ (b a : Nat), Nat.Coprime a b → 0 < a → 0 < b → ∃ l m : Nat, a * l = 1 + b * m := by
  intro b
  induction b using Nat.strongRecOn with
  | ind b ih =>
    intro a hc ha hb
    by_cases h1 : b = 1
    · subst h1
      exact ⟨1, a - 1, by omega⟩
    · have hr : a % b < b := Nat.mod_lt _ hb
      have hc2 : Nat.Coprime b (a % b) := by
        have : Nat.gcd b (a % b) = Nat.gcd a b := by rw [Nat.gcd_comm a b, Nat.gcd_rec b a, Nat.gcd_comm]
        unfold Nat.Coprime; rw [this]; exact hc
      have hpos : 0 < a % b := by
        rcases Nat.eq_zero_or_pos (a % b) with h | h
        · rw [h] at hc2
          have : b = 1 := by simpa [Nat.Coprime] using hc2
          exact absurd this h1
        · exact h
      obtain ⟨l, m, e⟩ := ih (a % b) hr b hc2 hb hpos
      -- b * l = 1 + r * m, a = b * (a / b) + r
      have hdm := Nat.div_add_mod a b
      obtain ⟨r, hrr⟩ : ∃ r, r = a % b := ⟨_, rfl⟩
      obtain ⟨q, hq⟩ : ∃ q, q = a / b := ⟨_, rfl⟩
      rw [← hrr] at e hdm hpos hr
      rw [← hq] at hdm
      -- r * (b * (m + 1) - m) = r * b * (m + 1) - r * m; pick l' = b * (m + 1) - m, a * l' = 1 + b * ..
      have hm1 : m ≤ b * (m + 1) := Nat.le_trans (Nat.le_succ m) (Nat.le_mul_of_pos_left _ hb)
      have hz : ((r : Int) * (b * (m + 1) - m)) = 1 + b * (r * (m + 1) - l) := by
        have e' : (b : Int) * l = 1 + r * m := by exact_mod_cast e
        have : (r : Int) * m = b * l - 1 := by omega
        calc (r : Int) * (b * (m + 1) - m) = b * (r * (m + 1)) - r * m := by rw [Int.mul_sub, Int.mul_left_comm]
          _ = b * (r * (m + 1)) - (b * l - 1) := by rw [this]
          _ = 1 + b * (r * (m + 1) - l) := by rw [Int.mul_sub]; omega
      have hl : l ≤ r * (m + 1) := by
        have : b * l ≤ b * (r * (m + 1)) := by
          rw [e]
          have h2 : b * (r * (m + 1)) = r * (b * (m + 1)) := Nat.mul_left_comm ..
          rw [h2]
          have h3 : r * m + 1 ≤ r * (m + 1) := by rw [Nat.mul_succ]; omega
          have h4 : r * (m + 1) ≤ r * (b * (m + 1)) := Nat.mul_le_mul_left _ (Nat.le_mul_of_pos_left _ hb)
          omega
        exact Nat.le_of_mul_le_mul_left this hb
      refine ⟨b * (m + 1) - m, r * (m + 1) - l + q * (b * (m + 1) - m), ?_⟩
      have e3 : r * (b * (m + 1) - m) = 1 + b * (r * (m + 1) - l) := by
        have h5 : ((b * (m + 1) - m : Nat) : Int) = (b : Int) * (m + 1) - m := by rw [Int.ofNat_sub hm1]; push_cast; rfl
        have h6 : ((r * (m + 1) - l : Nat) : Int) = (r : Int) * (m + 1) - l := by rw [Int.ofNat_sub hl]; push_cast; rfl
        have : ((r * (b * (m + 1) - m) : Nat) : Int) = ((1 + b * (r * (m + 1) - l) : Nat) : Int) := by
          rw [Int.natCast_mul, h5, Int.natCast_add, Int.natCast_mul, h6]
          exact hz
        exact Int.ofNat.inj this
      generalize b * (m + 1) - m = K at e3 ⊢
      rw [← hdm, Nat.add_mul, e3, Nat.mul_add b, Nat.mul_assoc]
      omega

/-- a factor for the other primes: the mean of the differences -/
theorem dom_out {L N M : El G → Prop} {π : Int → Prop} (SL : SG L) (F : AbF N M) (hML : ∀ x, M x → L x) (nN : nrm L N) (nM : nrm L M) (he : ∀ x, M x → N (ep x (bP P π))) (h : Dom L M π) : Dom L N π := by
  intro A B SA SB hNA hNB hAL hBL eA eB hH
  have nA := nrm_mono nM hAL
  have nB := nrm_mono nM hBL
  have SA' := prS_sg SA F.sm nA
  have SB' := prS_sg SB F.sm nB
  have hAA : ∀ x, A x → prS A M x := fun x hx => ⟨x, 1, hx, F.sm.one, (El.or x).symm⟩
  have hBB : ∀ x, B x → prS B M x := fun x hx => ⟨x, 1, hx, F.sm.one, (El.or x).symm⟩
  have hex : ∀ {C : El G → Prop}, nrm C M → (∀ x, C x → N (ep x (aP P π))) → ∀ x, prS C M x → M (ep x (aP P π)) := by
    rintro C nC eC x ⟨a, n, ha, hn, rfl⟩
    obtain ⟨m, hm, e⟩ := prS_ep F.sm nC ha hn (aP P π)
    rw [e]; exact F.sm.mul _ _ (F.le _ (eC a ha)) hm
  have hsub : ∀ {C : El G → Prop}, (∀ x, C x → L x) → ∀ x, prS C M x → L x := by
    rintro C hC x ⟨a, n, ha, hn, rfl⟩
    exact SL.mul _ _ (hC a ha) (hML n hn)
  obtain ⟨g, hg, hgB⟩ := h _ _ SA' SB' (fun x hx => ⟨1, x, SA.one, hx, (El.ol x).symm⟩) (fun x hx => ⟨1, x, SB.one, hx, (El.ol x).symm⟩) (hsub hAL) (hsub hBL) (hex nA eA) (hex nB eB)
    (fun d hd hn => hH d hd (fun hp => hn (pv_mono hAA hp)))
  -- the conjugate C of B lies in A M
  obtain ⟨C, hC⟩ : ∃ C : El G → Prop, C = fun x => B (g * (x * g⁻¹)) := ⟨_, rfl⟩
  have SC : SG C := by
    rw [hC]
    refine ⟨?_, ?_, ?_⟩
    · show B (g * (1 * g⁻¹)); rw [El.ol, El.ir]; exact SB.one
    · intro x y hx hy
      have := SB.mul _ _ hx hy
      have e : g * (x * g⁻¹) * (g * (y * g⁻¹)) = g * (x * y * g⁻¹) := by simp only [El.ass, El.ilc]
      rwa [e] at this
    · intro x hx
      have := SB.inv _ hx
      have e : (g * (x * g⁻¹))⁻¹ = g * (x⁻¹ * g⁻¹) := by simp only [El.mi, El.ii, El.ass]
      rwa [e] at this
  have hCx : ∀ x, C x → ∃ y, B y ∧ x = g⁻¹ * (y * g) := fun x hx => by
    rw [hC] at hx
    exact ⟨_, hx, by simp only [El.ass, El.il, El.ilc, El.or]⟩
  have hBC : ∀ x, B x → C (g⁻¹ * (x * g)) := fun x hx => by
    rw [hC]
    show B (g * (g⁻¹ * (x * g) * g⁻¹))
    have e : g * (g⁻¹ * (x * g) * g⁻¹) = x := by simp only [El.ass, El.ir, El.irc, El.or]
    rw [e]; exact hx
  have hNC : ∀ x, N x → C x := fun x hx => by
    rw [hC]
    have := hNB _ (nN g⁻¹ x (SL.inv _ hg) hx)
    rwa [El.ii] at this
  have hCA : ∀ x, C x → prS A M x := fun x hx => by
    obtain ⟨y, hy, rfl⟩ := hCx x hx
    exact hgB y (hBB y hy)
  have hCL : ∀ x, C x → L x := fun x hx => hsub hAL x (hCA x hx)
  have eC : ∀ x, C x → N (ep x (aP P π)) := fun x hx => by
    obtain ⟨y, hy, rfl⟩ := hCx x hx
    rw [ep_conj]; exact nN g _ hg (eB y hy)
  -- A and M meet in N
  have hmeet : ∀ x, A x → M x → N x := fun x h1 h2 => by
    have ha := eA x h1
    have hb := he x h2
    have hbp : 0 < bP P π := prd_pos G _ _ _ (Nat.zero_add _)
    obtain ⟨l, m, e⟩ := cop_inv (bP P π) (aP P π) (ab_cop G π) (prd_pos G _ _ _ (Nat.zero_add _)) hbp
    have h3 := F.sn.ep ha l
    rw [← ep_mul, e, ep_add, ep_1, ep_mul] at h3
    have h4 := F.sn.mul _ _ h3 (F.sn.inv _ (F.sn.ep hb m))
    rwa [El.ass, El.ir, El.or] at h4
  -- the difference
  have hex2 : ∀ x, ∃ v, C x → M v ∧ A (x * v) := fun x => by
    by_cases hx : C x
    · obtain ⟨a, n, ha, hn, e⟩ := hCA x hx
      exact ⟨n⁻¹, fun _ => ⟨F.sm.inv _ hn, by rw [e, El.ass, El.ir, El.or]; exact ha⟩⟩
    · exact ⟨1, fun h => absurd h hx⟩
  obtain ⟨ν, hν⟩ := Classical.axiomOfChoice hex2
  have huni : ∀ x w1 w2, M w1 → M w2 → A (x * w1) → A (x * w2) → eqv N w1 w2 := fun x w1 w2 m1 m2 a1 a2 => by
    refine hmeet _ ?_ (F.sm.mul _ _ (F.sm.inv _ m1) m2)
    have := SA.mul _ _ (SA.inv _ a1) a2
    rwa [El.mi, El.ass, El.ilc] at this
  have hνc : ∀ x y, C x → C y → eqv N (ν (x * y)) (y⁻¹ * (ν x * y) * ν y) := fun x y hx hy => by
    obtain ⟨m1, a1⟩ := hν x hx
    obtain ⟨m2, a2⟩ := hν y hy
    obtain ⟨m3, a3⟩ := hν _ (SC.mul _ _ hx hy)
    refine huni (x * y) _ _ m3 (F.sm.mul _ _ (nM y _ (hCL y hy) m1) m2) a3 ?_
    have := SA.mul _ _ a1 a2
    have e : x * ν x * (y * ν y) = x * y * (y⁻¹ * (ν x * y) * ν y) := by simp only [El.ass, El.irc]
    rwa [e] at this
  have hνe : ∀ x x', C x → C x' → eqv N x x' → eqv N (ν x) (ν x') := fun x x' hx hx' hxx => by
    obtain ⟨m1, a1⟩ := hν x hx
    obtain ⟨m2, a2⟩ := hν x' hx'
    have hn : N (x⁻¹ * x') := hxx
    have h1 : eqv N (ν x) (x⁻¹ * x' * ν x') := huni x _ _ m1 (F.sm.mul _ _ (F.le _ hn) m2) a1 (by
      have e : x * (x⁻¹ * x' * ν x') = x' * ν x' := by simp only [El.ass, El.irc]
      rw [e]; exact a2)
    refine eqv_trans F.sn h1 ?_
    have h2 := nN _ _ (hML _ m2) (F.sn.inv _ hn)
    unfold eqv
    have e : (x⁻¹ * x' * ν x')⁻¹ * ν x' = (ν x')⁻¹ * ((x⁻¹ * x')⁻¹ * ν x') := by rw [El.mi, El.ass]
    rw [e]; exact h2
  -- the mean
  obtain ⟨ts, hts⟩ : ∃ ts, ts = trv N C := ⟨_, rfl⟩
  have htC : ∀ t ∈ ts, C t := fun t ht => by rw [hts] at ht; exact (trv_mem.1 ht).1
  have hkc : Nat.Coprime ts.length (bP P π) := by
    rw [hts, trv_len F.sn SC hNC]
    refine prd_cop G _ _ (Nat.zero_add _) (fun j k hj hk h1 h2 e => h2 ?_)
    rw [← e]
    refine Classical.byContradiction fun hn => ?_
    exact cop_ndvd (G := G) hj (a_ndvd G hj hn) (pv_of_exp eC h1.1 h1.2)
  have hbp : 0 < bP P π := prd_pos G _ _ _ (Nat.zero_add _)
  have hkp : 0 < ts.length := by
    rw [hts, trv_len F.sn SC hNC]
    exact prd_pos G _ _ _ (Nat.zero_add _)
  obtain ⟨l, m, hlm⟩ := cop_inv _ _ hkc hkp hbp
  obtain ⟨t, ht⟩ : ∃ t, t = lp (ts.map ν) := ⟨_, rfl⟩
  have htM : M t := by
    rw [ht]
    refine lp_mem F.sm (fun z hz => ?_)
    obtain ⟨u, hu, rfl⟩ := List.mem_map.1 hz
    exact (hν u (htC u hu)).1
  have hround : ∀ y, C y → eqv N t (y⁻¹ * (t * y) * ep (ν y) ts.length) := fun y hy => by
    have nC : ∀ n, N n → N (y⁻¹ * (n * y)) := fun n hn => nN y n (hCL y hy) hn
    have hper : (ts.map (fun x => rp N (x * y))).Perm ts := by
      have hnd : (ts.map (fun x => rp N (x * y))).Nodup := by
        refine List.nodup_iff_pairwise_ne.2 ?_
        rw [List.pairwise_map]
        have hn0 : ts.Nodup := by rw [hts]; exact elsIn_nodup _
        refine (List.nodup_iff_pairwise_ne.1 hn0).imp_of_mem (fun {a b} ha hb hab e => hab ?_)
        have h1 := rp_eqv F.sn (a * y)
        rw [e] at h1
        have h2 := eqv_trans F.sn (eqv_symm F.sn h1) (rp_eqv F.sn (b * y))
        have h3 := nN y⁻¹ _ (SL.inv _ (hCL y hy)) h2
        have e2 : y⁻¹⁻¹ * ((a * y)⁻¹ * (b * y) * y⁻¹) = a⁻¹ * b := by simp only [El.mi, El.ii, El.ass, El.ir, El.irc, El.or]
        rw [e2] at h3
        rw [hts] at ha hb
        exact trv_one F.sn ha hb h3
      have hin : ∀ z ∈ ts.map (fun x => rp N (x * y)), z ∈ ts := fun z hz => by
        obtain ⟨u, hu, rfl⟩ := List.mem_map.1 hz
        rw [hts]; exact rp_in F.sn SC hNC (SC.mul _ _ (htC u hu) hy)
      refine (List.perm_ext_iff_of_nodup hnd (by rw [hts]; exact elsIn_nodup _)).2 (fun z => ⟨hin z, fun hz => Classical.byContradiction fun hnz => ?_⟩)
      have h4 : (z :: ts.map (fun x => rp N (x * y))).Nodup := List.nodup_cons.2 ⟨hnz, hnd⟩
      have h5 := nodup_sub_len _ ts h4 (fun w hw => by
        rcases List.mem_cons.1 hw with rfl | hw
        · exact hz
        · exact hin w hw)
      simp only [List.length_cons, List.length_map] at h5
      omega
    have p1 := F.lp_perm ((hper.map ν).symm) (fun z hz => by
      obtain ⟨u, hu, rfl⟩ := List.mem_map.1 hz
      exact (hν u (htC u hu)).1)
    rw [← ht, List.map_map] at p1
    refine eqv_trans F.sn p1 ?_
    have p2 : eqv N (lp (ts.map (ν ∘ fun x => rp N (x * y)))) (lp (ts.map (fun x => y⁻¹ * (ν x * y) * ν y))) := by
      refine F.lp_congr (fun x hx => ?_) (fun x hx => ?_)
      · have : rp N (x * y) ∈ ts := by rw [hts]; exact rp_in F.sn SC hNC (SC.mul _ _ (htC x hx) hy)
        exact (hν _ (htC _ this)).1
      · have hr : rp N (x * y) ∈ ts := by rw [hts]; exact rp_in F.sn SC hNC (SC.mul _ _ (htC x hx) hy)
        exact eqv_trans F.sn (hνe _ _ (htC _ hr) (SC.mul _ _ (htC x hx) hy) (rp_eqv F.sn _)) (hνc x y (htC x hx) hy)
    refine eqv_trans F.sn p2 ?_
    have p3 := F.lp_cn (f := ν) (y := y) (v := ν y) (fun x hx => nM y x (hCL y hy) hx) (hν y hy).1 (l := ts) (fun x hx => (hν x (htC x hx)).1)
    rw [← ht] at p3
    exact p3
  obtain ⟨s, hs⟩ : ∃ s, s = ep t l := ⟨_, rfl⟩
  have hsM : M s := by rw [hs]; exact F.sm.ep htM l
  have hfin : ∀ y, C y → A (s⁻¹ * (y * s)) := fun y hy => by
    obtain ⟨mν, aν⟩ := hν y hy
    have hyL := hCL y hy
    have h1 := F.ep htM (hround y hy) l
    have h2 := F.ep_mul (nM y t hyL htM) (F.sm.ep mν ts.length) l
    rw [ep_conj, ← ep_mul, hlm, ep_add, ep_1, ep_mul] at h2
    have h3 := eqv_trans F.sn h1 h2
    rw [← hs] at h3
    -- h3 : s alike (y⁻¹ s y) (ν y * n)
    obtain ⟨n, hn⟩ : ∃ n, n = ep (ep (ν y) (bP P π)) m := ⟨_, rfl⟩
    have hnN : N n := by rw [hn]; exact F.sn.ep (he _ mν) m
    rw [← hn] at h3
    have h4 : N (s⁻¹ * (y⁻¹ * (s * y) * (ν y * n))) := h3
    have h5 := F.sn.mul _ _ h4 (F.sn.inv _ hnN)
    have e : s⁻¹ * (y⁻¹ * (s * y) * (ν y * n)) * n⁻¹ = s⁻¹ * (y⁻¹ * (s * (y * ν y))) := by simp only [El.ass, El.ir, El.or]
    rw [e] at h5
    have h6 := SA.mul _ _ aν (SA.inv _ (hNA _ h5))
    have e2 : y * ν y * (s⁻¹ * (y⁻¹ * (s * (y * ν y))))⁻¹ = s⁻¹ * (y * s) := by simp only [El.mi, El.ii, El.ass, El.irc]
    rwa [e2] at h6
  refine ⟨g * s, SL.mul _ _ hg (hML s hsM), fun x hx => ?_⟩
  have := hfin _ (hBC x hx)
  have e : s⁻¹ * (g⁻¹ * (x * g) * s) = (g * s)⁻¹ * (x * (g * s)) := by simp only [El.mi, El.ass]
  rwa [e] at this

/-- the subgroup that elements generate -/
def genE (Q : El G → Prop) (x : El G) : Prop := ∀ H, SG H → (∀ y, Q y → H y) → H x
theorem genE_sg (Q : El G → Prop) : SG (genE Q) := ⟨fun _ S _ => S.one, fun _ _ h k H S hH => S.mul _ _ (h H S hH) (k H S hH), fun _ h H S hH => S.inv _ (h H S hH)⟩
theorem genE_mem {Q : El G → Prop} {x : El G} (h : Q x) : genE Q x := fun _ _ hH => hH x h
theorem pull_sg {H : El G → Prop} (S : SG H) (g : El G) : SG (fun x => H (g⁻¹ * (x * g))) := by
  refine ⟨?_, ?_, ?_⟩
  · show H (g⁻¹ * (1 * g)); rw [El.ol, El.il]; exact S.one
  · intro x y hx hy
    have := S.mul _ _ hx hy
    have e : g⁻¹ * (x * g) * (g⁻¹ * (y * g)) = g⁻¹ * (x * y * g) := by simp only [El.ass, El.irc]
    rwa [e] at this
  · intro x hx
    have := S.inv _ hx
    have e : (g⁻¹ * (x * g))⁻¹ = g⁻¹ * (x⁻¹ * g) := by simp only [El.mi, El.ii, El.ass]
    rwa [e] at this

/-- the derived series -/
def dser (L : El G → Prop) : Nat → El G → Prop
  | 0 => L
  | k + 1 => genE (fun z => ∃ x y, dser L k x ∧ dser L k y ∧ z = x⁻¹ * (y⁻¹ * (x * y)))
theorem dser_sg {L : El G → Prop} (S : SG L) : ∀ k, SG (dser L k)
  | 0 => S
  | _ + 1 => genE_sg _
theorem dser_le {L : El G → Prop} (S : SG L) (k : Nat) : ∀ x, dser L (k + 1) x → dser L k x := fun x hx =>
  hx _ (dser_sg S k) (fun z ⟨a, b, ha, hb, e⟩ => by
    have R := dser_sg S k
    rw [e]; exact R.mul _ _ (R.inv _ ha) (R.mul _ _ (R.inv _ hb) (R.mul _ _ ha hb)))
theorem dser_in {L : El G → Prop} (S : SG L) : ∀ k x, dser L k x → L x
  | 0, _, h => h
  | k + 1, x, h => dser_in S k x (dser_le S k x h)
theorem dser_nrm {L : El G → Prop} (S : SG L) : ∀ k, nrm L (dser L k)
  | 0 => fun g x hg hx => S.mul _ _ (S.inv _ hg) (S.mul _ _ hx hg)
  | k + 1 => fun g x hg hx => by
    have ih := dser_nrm S k
    refine hx _ (pull_sg (genE_sg _) g) (fun z ⟨a, b, ha, hb, e⟩ => genE_mem ⟨g⁻¹ * (a * g), g⁻¹ * (b * g), ih g a hg ha, ih g b hg hb, ?_⟩)
    rw [e]
    simp only [El.mi, El.ii, El.ass, El.irc]
theorem dser_deep {L : El G → Prop} : ∀ k, k ≤ P.orders.length → ∀ x, dser L k x → dT k x
  | 0, _, x, _ => dT_zero x
  | k + 1, hk, x, hx => by
    have ih := dser_deep (L := L) k (by omega)
    refine hx _ (dT_sg hk) (fun z ⟨a, b, ha, hb, e⟩ => ?_)
    have S := dT_sg (G := G) (d := k) (by omega)
    have ha' := ih a ha
    have hb' := ih b hb
    have h1 := el_diff (x := b * a) (y := a * b) (show k < P.orders.length by omega) (S.mul _ _ hb' ha') (S.mul _ _ ha' hb') (by
      have e1 := (G.right (show k ≤ P.orders.length by omega) a.2 (dT_T.1 hb')).2 (by omega)
      have e2 := (G.right (show k ≤ P.orders.length by omega) b.2 (dT_T.1 ha')).2 (by omega)
      show gt (rMul P b.1 a.1) k = gt (rMul P a.1 b.1) k
      rw [e1, e2, Int.add_comm])
    rw [e]
    have e3 : a⁻¹ * (b⁻¹ * (a * b)) = (b * a)⁻¹ * (a * b) := by rw [El.mi, El.ass]
    rw [e3]; exact h1

theorem dom_all {L : El G → Prop} (S : SG L) (π : Int → Prop) : Dom L (fun x => x = 1) π := by
  have key : ∀ k, Dom L (dser L k) π := by
    intro k
    induction k with
    | zero => exact dom_top S π
    | succ k ih =>
      have SD := dser_sg S k
      have SD' := dser_sg S (k + 1)
      have nD := dser_nrm S k
      have nD' := dser_nrm S (k + 1)
      have hDL := dser_in S k
      have hD'L := dser_in S (k + 1)
      have F0 : AbF (dser L (k + 1)) (dser L k) := ⟨SD', SD, dser_le S k, nrm_mono nD' hDL, fun x y hx hy => genE_mem ⟨x, y, hx, hy, rfl⟩⟩
      -- between them: the elements whose power lies below
      obtain ⟨E, hE⟩ : ∃ E : El G → Prop, E = fun x => dser L k x ∧ dser L (k + 1) (ep x (aP P π)) := ⟨_, rfl⟩
      have SE : SG E := by
        rw [hE]
        refine ⟨⟨SD.one, by rw [ep_one]; exact SD'.one⟩, fun x y hx hy => ⟨SD.mul _ _ hx.1 hy.1, ?_⟩, fun x hx => ⟨SD.inv _ hx.1, ?_⟩⟩
        · have h1 := eqv_symm SD' (F0.ep_mul hx.1 hy.1 (aP P π))
          have h2 := SD'.mul _ _ (SD'.mul _ _ hx.2 hy.2) h1
          rwa [El.irc] at h2
        · have h1 := F0.ep_mul hx.1 (SD.inv _ hx.1) (aP P π)
          rw [El.ir, ep_one] at h1
          have h2 : dser L (k + 1) (ep x (aP P π) * ep x⁻¹ (aP P π)) := by
            unfold eqv at h1
            rwa [El.io, El.ol] at h1
          have h3 := SD'.mul _ _ (SD'.inv _ hx.2) h2
          rwa [El.ilc] at h3
      have hEx : ∀ x, E x → dser L k x := fun x hx => by rw [hE] at hx; exact hx.1
      have hD'E : ∀ x, dser L (k + 1) x → E x := fun x hx => by rw [hE]; exact ⟨dser_le S k x hx, SD'.ep hx _⟩
      have nE : nrm L E := fun g x hg hx => by
        rw [hE] at hx ⊢
        exact ⟨nD g x hg hx.1, by rw [ep_conj]; exact nD' g _ hg hx.2⟩
      have F1 : AbF E (dser L k) := ⟨SE, SD, hEx, nrm_mono nE hDL, fun x y hx hy => hD'E _ (F0.ab x y hx hy)⟩
      have h1 : Dom L E π := dom_out S F1 hDL nE nD (fun x hx => by
        rw [hE]
        refine ⟨SD.ep hx _, ?_⟩
        rw [← ep_mul, Nat.mul_comm, ep_all]; exact SD'.one) ih
      exact dom_in SE (fun x hx => hDL x (hEx x hx)) S hD'E nE (fun x hx => by rw [hE] at hx; exact hx.2) h1
  have h := key P.orders.length
  have e : dser L P.orders.length = fun x => x = 1 := funext fun x => propext ⟨fun hx => dT_top (dser_deep _ (Nat.le_refl _) x hx), fun hx => by rw [hx]; exact (dser_sg S _).one⟩
  rwa [e] at h

theorem one_sg : SG (fun x : El G => x = 1) := ⟨rfl, fun x y hx hy => by rw [hx, hy, El.ol], fun x hx => by rw [hx, El.io]⟩
theorem pv_one {d : Nat} : ¬ pv (fun x : El G => x = 1) d := fun ⟨_, x, hx, _, h0⟩ => h0 (by rw [hx]; exact gt_replicate _ _)

/-- a Hall subgroup of the tail from i on -/
theorem hall_tail (G : Grp P) (π : Int → Prop) : ∀ f i, i + f = P.orders.length → ∃ A : El G → Prop, SG A ∧ (∀ x, A x → dT i x) ∧ ∀ d, pv A d ↔ (d < P.orders.length ∧ i ≤ d ∧ π (gt P.orders d))
  | 0, i, hi => ⟨fun x => x = 1, one_sg, fun x hx => by rw [hx]; exact (dT_sg (by omega)).one, fun d => ⟨fun h => absurd h pv_one, fun h => by omega⟩⟩
  | f + 1, i, hi => by
    obtain ⟨K, SK, hKT, hKp⟩ := hall_tail G π f (i + 1) (by omega)
    have hin : i < P.orders.length := by omega
    have ST := dT_sg (G := G) (d := i) (by omega)
    have ST1 := dT_sg (G := G) (d := i + 1) (by omega)
    have hKpi : ∀ d, pv K d → π (gt P.orders d) := fun d hd => ((hKp d).1 hd).2.2
    have hKe : ∀ x, K x → ep x (aP P π) = 1 := fun x hx => exp_of_pv SK hKpi hx
    by_cases hp : π (gt P.orders i)
    · -- an element beyond the tail that keeps K
      obtain ⟨u, hu⟩ : ∃ u : El G, u = ⟨unitV P.orders.length i, (T.unit G.v (Nat.le_refl i) hin).1⟩ := ⟨_, rfl⟩
      have huT : dT i u := by rw [hu]; exact dT_T.2 (T.unit G.v (Nat.le_refl i) hin)
      have hu1 : gt u.1 i = 1 := by rw [hu]; show gt (unitV P.orders.length i) i = 1; rw [gt_unit _ _ _ hin, if_pos rfl]
      have nT : ∀ g x : El G, dT i g → dT (i + 1) x → dT (i + 1) (g⁻¹ * (x * g)) := fun g x hg hx => by
        have h1 := el_diff (x := g) (y := x * g) hin hg (ST.mul _ _ (dT_down hx) hg) (by
          have e1 := (G.right (show i ≤ P.orders.length by omega) x.2 (dT_T.1 hg)).2 hin
          show gt g.1 i = gt (rMul P x.1 g.1) i
          have hb := g.2.2 i hin
          rw [e1, hx i (by omega), Int.zero_add, Int.emod_eq_of_lt hb.1 hb.2])
        exact h1
      obtain ⟨C, hC⟩ : ∃ C : El G → Prop, C = fun x => K (u * (x * u⁻¹)) := ⟨_, rfl⟩
      have SC : SG C := by
        have := pull_sg SK u⁻¹
        simp only [El.ii] at this
        rw [hC]; exact this
      have hCx : ∀ x, C x → ∃ y, K y ∧ x = u⁻¹ * (y * u) := fun x hx => by
        rw [hC] at hx
        exact ⟨_, hx, by simp only [El.ass, El.il, El.ilc, El.or]⟩
      have hKC : ∀ x, K x → C (u⁻¹ * (x * u)) := fun x hx => by
        rw [hC]
        show K (u * (u⁻¹ * (x * u) * u⁻¹))
        have e : u * (u⁻¹ * (x * u) * u⁻¹) = x := by simp only [El.ass, El.ir, El.irc, El.or]
        rw [e]; exact hx
      obtain ⟨g, hg, hgC⟩ := dom_all ST1 π K C SK SC (fun x hx => by rw [hx]; exact SK.one) (fun x hx => by rw [hx]; exact SC.one) hKT
        (fun x hx => by obtain ⟨y, hy, rfl⟩ := hCx x hx; exact nT u y huT (hKT y hy)) hKe
        (fun x hx => by
          obtain ⟨y, hy, rfl⟩ := hCx x hx
          rw [ep_conj, hKe y hy, El.ol, El.il])
        (fun d hd hn hq => by
          obtain ⟨h1, x, hx, hT, h0⟩ := hd
          refine hn ((hKp d).2 ⟨h1, ?_, hq⟩)
          refine Classical.byContradiction fun hlt => h0 (hx d (by omega)))
      obtain ⟨y, hy⟩ : ∃ y, y = u * g := ⟨_, rfl⟩
      have hyK : ∀ x, K x → K (y⁻¹ * (x * y)) := fun x hx => by
        have := hgC _ (hKC x hx)
        have e : g⁻¹ * (u⁻¹ * (x * u) * g) = y⁻¹ * (x * y) := by rw [hy]; simp only [El.mi, El.ass]
        rwa [e] at this
      have hyT : dT i y := by rw [hy]; exact ST.mul _ _ huT (dT_down hg)
      have hy1 : gt y.1 i = 1 := by
        have h1 : dT (i + 1) (u⁻¹ * y) := by rw [hy, El.ilc]; exact hg
        rw [← el_same hin h1]; exact hu1
      have hyk : ∀ k x, K x → K ((ep y k)⁻¹ * (x * ep y k)) := by
        intro k
        induction k with
        | zero => intro x hx; show K ((1 : El G)⁻¹ * (x * 1)); rw [El.io, El.ol, El.or]; exact hx
        | succ k ih =>
          intro x hx
          have := hyK _ (ih x hx)
          have e : y⁻¹ * ((ep y k)⁻¹ * (x * ep y k) * y) = (ep y (k + 1))⁻¹ * (x * ep y (k + 1)) := by
            show _ = (ep y k * y)⁻¹ * (x * (ep y k * y))
            simp only [El.mi, El.ass]
          rwa [e] at this
      obtain ⟨q, hq1, hq2, hq3⟩ := ordN G hin
      -- the power that lies in K
      obtain ⟨z, hz⟩ : ∃ z, z = ep y (bP P π) := ⟨_, rfl⟩
      have hzT : dT i z := by rw [hz]; exact ep_dT (by omega) hyT _
      have hz0 : gt z.1 i ≠ 0 := by rw [hz]; exact lead_ne hin hyT (by rw [hy1]; decide) (cop_ndvd (G := G) hin (b_ndvd G hin hp))
      have hzK : ∀ k x, K x → K ((ep z k)⁻¹ * (x * ep z k)) := fun k x hx => by
        rw [hz, ← ep_mul]; exact hyk _ x hx
      obtain ⟨w, hw⟩ : ∃ w, w = ep z q := ⟨_, rfl⟩
      have hwT : dT (i + 1) w := by rw [hw, ← hq2]; exact ep_order hin hzT
      have hwe : ep w (aP P π) = 1 := by
        have h1 := ep_all y π
        rw [hw, ← ep_mul, hz, ← ep_mul, show bP P π * (q * aP P π) = aP P π * bP P π * q by rw [Nat.mul_comm (aP P π * bP P π) q, Nat.mul_comm (aP P π) (bP P π), Nat.mul_left_comm], ep_mul, h1, ep_one]
      have hwKn : ∀ x, K x → ∀ k, K ((ep w k)⁻¹ * (x * ep w k)) := fun x hx k => by
        rw [hw, ← ep_mul]; exact hzK _ x hx
      -- powers of an element that keeps K, times K
      have cyc : ∀ v : El G, (∀ k x, K x → K ((ep v k)⁻¹ * (x * ep v k))) → nrm (fun x => ∃ k, x = ep v k) K ∧ SG (prS (fun x => ∃ k, x = ep v k) K) := by
        intro v hv
        have hn : nrm (fun x => ∃ k, x = ep v k) K := fun g x ⟨k, hk⟩ hx => by rw [hk]; exact hv k x hx
        refine ⟨hn, SG.of_mul ⟨1, 1, ⟨0, rfl⟩, SK.one, (El.ol _).symm⟩ ?_⟩
        rintro x x' ⟨_, c, ⟨k, rfl⟩, hc, rfl⟩ ⟨_, c', ⟨k', rfl⟩, hc', rfl⟩
        refine ⟨ep v (k + k'), (ep v k')⁻¹ * (c * ep v k') * c', ⟨_, rfl⟩, SK.mul _ _ (hv k' c hc) hc', ?_⟩
        rw [ep_add]
        simp only [El.ass, El.irc]
      -- the power of z lies in K
      have hwK : K w := by
        obtain ⟨nW, SW⟩ := cyc w (fun k x hx => hwKn x hx k)
        obtain ⟨W, hW⟩ : ∃ W, W = prS (fun x => ∃ k, x = ep w k) K := ⟨_, rfl⟩
        rw [← hW] at SW
        have hKW : ∀ x, K x → W x := fun x hx => by rw [hW]; exact ⟨1, x, ⟨0, rfl⟩, hx, (El.ol x).symm⟩
        have hWT : ∀ x, W x → dT (i + 1) x := fun x hx => by
          rw [hW] at hx
          obtain ⟨_, c, ⟨k, rfl⟩, hc, rfl⟩ := hx
          exact ST1.mul _ _ (ST1.ep hwT k) (hKT c hc)
        have hWe : ∀ x, W x → ep x (aP P π * aP P π) = 1 := fun x hx => by
          rw [hW] at hx
          obtain ⟨_, c, ⟨k, rfl⟩, hc, rfl⟩ := hx
          obtain ⟨m, hm, e⟩ := prS_ep SK nW ⟨k, rfl⟩ hc (aP P π)
          rw [ep_mul, e, ← ep_mul, Nat.mul_comm, ep_mul, hwe, ep_one, El.ol]
          exact hKe m hm
        refine le_of_pv SK SW hKW (fun d hd => ?_) w (by rw [hW]; exact ⟨w, 1, ⟨1, (ep_1 w).symm⟩, SK.one, (El.or w).symm⟩)
        have hdn := hd.1
        refine (hKp d).2 ⟨hdn, ?_, Classical.byContradiction fun hq => ?_⟩
        · obtain ⟨_, x, hx, hT, h0⟩ := hd
          exact Classical.byContradiction fun hlt => h0 (hWT x hx d (by omega))
        · have hc := a_ndvd G hdn hq
          exact cop_ndvd (G := G) hdn (Nat.Coprime.mul_right hc hc) (pv_of_exp (N := fun x => x = 1) hWe hd pv_one)
      obtain ⟨nZ, SZ⟩ := cyc z hzK
      obtain ⟨H, hH⟩ : ∃ H, H = prS (fun x => ∃ k, x = ep z k) K := ⟨_, rfl⟩
      rw [← hH] at SZ
      have hKH : ∀ x, K x → H x := fun x hx => by rw [hH]; exact ⟨1, x, ⟨0, rfl⟩, hx, (El.ol x).symm⟩
      have hHT : ∀ x, H x → dT i x := fun x hx => by
        rw [hH] at hx
        obtain ⟨_, c, ⟨k, rfl⟩, hc, rfl⟩ := hx
        exact ST.mul _ _ (ST.ep hzT k) (dT_down (hKT c hc))
      have hHe : ∀ x, H x → ep x (q * aP P π) = 1 := fun x hx => by
        rw [hH] at hx
        obtain ⟨_, c, ⟨k, rfl⟩, hc, rfl⟩ := hx
        obtain ⟨m, hm, e⟩ := prS_ep SK nZ ⟨k, rfl⟩ hc q
        rw [ep_mul, e, ← ep_mul, Nat.mul_comm, ep_mul, ← hw]
        exact hKe _ (SK.mul _ _ (SK.ep hwK k) hm)
      refine ⟨H, SZ, hHT, fun d => ⟨fun hd => ⟨hd.1, ?_, ?_⟩, fun hd => ?_⟩⟩
      · obtain ⟨_, x, hx, hT, h0⟩ := hd
        exact Classical.byContradiction fun hlt => h0 (hHT x hx d (by omega))
      · refine Classical.byContradiction fun hnp => ?_
        obtain ⟨r, g1, g2, g3⟩ := ordN G hd.1
        have hc := a_ndvd G hd.1 hnp
        have hc2 : Nat.Coprime (gt P.orders d).toNat q := by
          rw [g2]
          refine cop7 g3 hq3 (fun e => hnp ?_)
          have : gt P.orders d = gt P.orders i := by omega
          rw [this]; exact hp
        exact cop_ndvd (G := G) hd.1 (Nat.Coprime.mul_right hc2 hc) (pv_of_exp (N := fun x => x = 1) hHe hd pv_one)
      · by_cases hdi : d = i
        · rw [hdi]
          exact ⟨hin, z, by rw [hH]; exact ⟨z, 1, ⟨1, (ep_1 z).symm⟩, SK.one, (El.or z).symm⟩, hzT, hz0⟩
        · exact pv_mono hKH ((hKp d).2 ⟨hd.1, by omega, hd.2.2⟩)
    · refine ⟨K, SK, fun x hx => dT_down (hKT x hx), fun d => ⟨fun h => ?_, fun h => ?_⟩⟩
      · have := (hKp d).1 h
        exact ⟨this.1, by omega, this.2.2⟩
      · refine (hKp d).2 ⟨h.1, ?_, h.2.2⟩
        rcases Nat.lt_or_ge i d with h1 | h1
        · exact h1
        · have : d = i := by omega
          subst this
          exact absurd h.2.2 hp

/-- Hall's theorem -/
theorem hall_ex (G : Grp P) (π : Int → Prop) : ∃ A : El G → Prop, SG A ∧ ∀ d, pv A d ↔ (d < P.orders.length ∧ π (gt P.orders d)) := by
  obtain ⟨A, h1, _, h3⟩ := hall_tail G π P.orders.length 0 (Nat.zero_add _)
  exact ⟨A, h1, fun d => (h3 d).trans ⟨fun h => ⟨h.1, h.2.2⟩, fun h => ⟨h.1, Nat.zero_le _, h.2⟩⟩⟩
theorem hall_dom {π : Int → Prop} {A B : El G → Prop} (SA : SG A) (SB : SG B) (hA : ∀ d, pv A d ↔ (d < P.orders.length ∧ π (gt P.orders d))) (hB : ∀ d, pv B d → π (gt P.orders d)) : ∃ g, ∀ x, B x → A (g⁻¹ * (x * g)) := by
  have ST := dT_sg (G := G) (d := 0) (Nat.zero_le _)
  obtain ⟨g, _, hg⟩ := dom_all ST π A B SA SB (fun x hx => by rw [hx]; exact SA.one) (fun x hx => by rw [hx]; exact SB.one) (fun x _ => dT_zero x) (fun x _ => dT_zero x)
    (fun x hx => exp_of_pv SA (fun d hd => ((hA d).1 hd).2) hx) (fun x hx => exp_of_pv SB hB hx) (fun d hd hn hp => hn ((hA d).2 ⟨hd.1, hp⟩))
  exact ⟨g, hg⟩
end

end Go.Proofs.YtdklekdpdbjfiaaGreat

/- impl.isMember. -/
namespace Go.Proofs.YtdklekdpdbjfiaaGreat
open Go.RowKit

theorem Grp.repTo_mem {P : Pr} (G : Grp P) {H : List Int → Prop} (S : Sub P H) {X Y : List Int} (hX : Vec P.orders X) (h : RepTo P (cseq P H) X (cseq P H).length Y) : Y = zeros P.orders.length ↔ H X := by
  obtain ⟨h1, h2, h3⟩ := G.seq_facts S
  have hi := G.invV hX
  have hc := h.cos H S h2
  constructor
  · intro h0
    rw [h0, G.grp.er _ hi] at hc
    have := S.inv _ hc
    rwa [G.inv_inv hX] at this
  · intro hx
    have hy := S.mul _ _ hx hc
    rw [← G.ass hX hi h.vec, G.mul_inv hX, G.grp.el _ h.vec] at hy
    by_cases h0 : Y = zeros P.orders.length
    · exact h0
    · obtain ⟨d, hd, hT, hne⟩ := depth_ex h.vec h0
      obtain ⟨j, hj, hjd⟩ := h3 Y hy d hd hT hne
      exact absurd (by rw [← hjd]; exact h.zer j hj) hne

theorem isZeroB_zeros {o l : List Int} (h : Vec o l) : isZeroB l = true ↔ l = zeros o.length := by
  rw [isZeroB_true]
  constructor
  · intro h0
    refine ext_gt (by rw [h.1]; simp [zeros]) (fun i hi => ?_)
    rw [h0 i hi]; exact (gt_replicate _ _).symm
  · intro h0 i hi
    rw [h0]; exact gt_replicate _ _

set_option maxHeartbeats 400000 in
theorem isMember_ok (P : Pr) (G : Grp P) (w : World) (p uv xv : Value) (H : List Int → Prop) (X : List Int) (Sp Su Sx : Nat → Prop) (S : Sub P H) (hp : PresP Sp w p P) (hu : Rows2 Su w uv (cseq P H)) (hx : Ints Sx w xv X) (hX : Vec P.orders X) :
    Calls Tryz.prog 134 #[p, uv, xv] w (Ret w fun _ v => ∃ r : Bool, v = .bool r ∧ (r = true ↔ H X)) := by
  have hn6 := G.v.n6
  have hl := G.cseq_len S
  have hsq := (G.seq_facts S).1
  have hcon := representative_ok P G w p uv xv (cseq P H) X Sp Su Sx hp hu hsq (by omega) hx hX
  obtain ⟨pb, po, rfl⟩ := hp.shape
  obtain ⟨au, capu, rfl, _, _⟩ := Sl.shape hu
  obtain ⟨ax, capx, rfl, _, _⟩ := hx.shape
  have HQ := Lib.hid hsq; clear hsq
  go_enter Tryz.func134, Tryz.ntmps134
  go_wp2_with fail
  refine Calls.mono hcon ?_
  rintro e1 w1 ⟨v1, rfl, hg1, Y, hO, hR⟩
  clear hcon
  have hYi := hO.ints (by rw [hR.vec.1]; omega)
  obtain ⟨ay, capy, rfl, _, _⟩ := hYi.shape
  have hiff := (isZeroB_zeros hR.vec).trans (G.repTo_mem S hX hR)
  cases hb : isZeroB Y with
  | true =>
    rw [hb] at hiff
    have HI := Lib.hid hiff
    have hz := isZero_ok _ _ w1 Any hYi
    rw [hb] at hz
    clear hiff hb hR
    go_wp2_with fail
    refine Calls.mono hz ?_
    rintro e2 w2 ⟨rfl, rfl⟩
    clear hz
    go_wp2
    go_ret
    exact ⟨_, rfl, hg1, true, rfl, by simpa using HI.out⟩
  | false =>
    rw [hb] at hiff
    have HI := Lib.hid hiff
    have hz := isZero_ok _ _ w1 Any hYi
    rw [hb] at hz
    clear hiff hb hR
    go_wp2_with fail
    refine Calls.mono hz ?_
    rintro e2 w2 ⟨rfl, rfl⟩
    clear hz
    go_wp2
    go_ret
    exact ⟨_, rfl, hg1, false, rfl, by simpa using HI.out⟩

end Go.Proofs.YtdklekdpdbjfiaaGreat

/- impl.conjugates, impl.conjugateSubgroup. -/
namespace Go.Proofs.YtdklekdpdbjfiaaGreat
open Go.RowKit

def conjL (P : Pr) (L : List (List Int)) (X : List Int) : List (List Int) := L.map (fun y => rConj P y X)

set_option maxHeartbeats 1000000 in
theorem conjugates_ok (P : Pr) (G : Grp P) (w : World) (p lv xv : Value) (L : List (List Int)) (X : List Int) (Sp Sr Sx : Nat → Prop) (hp : PresP Sp w p P) (hl : Rows2 Sr w lv L) (hL : ∀ y ∈ L, Vec P.orders y) (hlen : L.length ≤ 10000) (hx : Ints Sx w xv X) (hX : Vec P.orders X) :
    Calls Tryz.prog 198 #[p, lv, xv] w (Ret w fun w' v => RowsO w.heap.size w' v (conjL P L X)) := by
  have hP := G.v
  have hn6 := hP.n6
  obtain ⟨pb, po, rfl⟩ := hp.shape
  obtain ⟨al, capl, rfl, _, _⟩ := Sl.shape hl
  obtain ⟨ax, capx, rfl, _, _⟩ := hx.shape
  have HL := Lib.hid (And.intro hL hX); clear hL hX
  have hcl : (conjL P L X).length = L.length := by unfold conjL; rw [List.length_map]
  have HCL := Lib.hid hcl; clear hcl
  go_enter Tryz.func198, Tryz.ntmps198
  go_wp2
  go_loopw [7, 12] (fun ov iv wr => ∃ (k : Nat) (v4 : Value), v4 = ov ∧ iv = .int .i64 k ∧ k ≤ L.length ∧ Ext w wr ∧ RowsO w.heap.size wr v4 ((conjL P L X).take k)) (fun _ iv _ => L.length - (intOf iv).toNat)
  case atStart => exact ⟨0, _, rfl, rfl, by omega, Ext.refl _, SlO.nil _ _ _ _⟩
  case round =>
    obtain ⟨k, v4, rfl, rfl, hk, hg, hO⟩ := hrel
    by_cases hlt : k < L.length
    · have hlt' : (k : Int) < L.length := by omega
      obtain ⟨b, off, a2, cap2, rfl, _, _, hc, hi⟩ := Rows2.at (Rows2.ext hl hg) k hlt
      have hyV := HL.out.1 _ (gtMem hlt)
      have hstep : (conjL P L X).take (k + 1) = (conjL P L X).take k ++ [rConj P (gt L k) X] := by
        rw [take_succ_gt _ k (by rw [HCL.out]; exact hlt)]
        unfold conjL
        rw [gt_map _ _ _ hlt]
      have htl : ((conjL P L X).take k).length ≤ 1000000 := by rw [List.length_take]; have := HCL.out; omega
      have HS := Lib.hid (And.intro hstep hyV); clear hstep hyV
      go_wp2_with fail
      refine Calls.mono (conjugate_ok P hP wr _ _ _ (gt L k) X Sp Sr Sx (hp.ext hg) hi (hx.ext hg) HS.out.2 HL.out.2) ?_
      rintro eC wC ⟨vC, rfl, hgC, hOC⟩
      rw [G.iConj_eq HS.out.2 HL.out.2] at hOC
      have hcV := G.conjV HS.out.2 HL.out.2
      have hYO : OwnIn (From wr.heap.size) wC vC (rConj P (gt L k) X) := OwnIn.of hOC (by rw [hcV.1]; omega) (fun j h1 _ => h1)
      obtain ⟨ay, capy, hvy, _, _⟩ := hYO.ints.shape
      subst hvy
      clear hc hcV
      go_wp2_with (first | (at_builtin; refine wp_app_row rfl _ _ rfl w.heap.size wr wC v4 _ ((conjL P L X).take k) (rConj P (gt L k) X) rfl hO hgC hYO rfl rfl htl hg.size ?_; intro v5 w5 hO5 hg5 hg6; have hgw5 := hO.extw hg (Nat.le_refl _) hg5) | fail)
      go_roundw
      case rel => exact ⟨k + 1, v5, rfl, by go_num, by omega, hgw5, by rw [HS.out.1]; exact hO5⟩
      case measure => simp [intOf]; omega
    · have hke : k = L.length := by omega
      subst hke
      rw [List.take_of_length_le (by rw [HCL.out]; exact Nat.le_refl _)] at hO
      obtain ⟨az, capz, hvz, _, _⟩ := SlD.shape (hO.toD (by rw [HCL.out]; omega))
      subst hvz
      go_wp2
      go_ret
      exact ⟨_, rfl, hg, hO⟩

set_option maxHeartbeats 400000 in
theorem conjugateSubgroup_ok (P : Pr) (G : Grp P) (w : World) (p lv xv : Value) (L : List (List Int)) (X : List Int) (Sp Sr Sx : Nat → Prop) (hp : PresP Sp w p P) (hl : Rows2 Sr w lv L) (hL : ∀ y ∈ L, Vec P.orders y) (hlen : L.length ≤ 10000) (hx : Ints Sx w xv X) (hX : Vec P.orders X) :
    Calls Tryz.prog 136 #[p, lv, xv] w (Ret w fun w' v => RowsO w.heap.size w' v (cseq P (genP P (fun z => z ∈ conjL P L X)))) := by
  have hcl : (conjL P L X).length = L.length := by unfold conjL; rw [List.length_map]
  have hcon := conjugates_ok P G w p lv xv L X Sp Sr Sx hp hl hL hlen hx hX
  obtain ⟨pb, po, rfl⟩ := hp.shape
  obtain ⟨al, capl, rfl, _, _⟩ := Sl.shape hl
  obtain ⟨ax, capx, rfl, _, _⟩ := hx.shape
  have hCV : ∀ z ∈ conjL P L X, Vec P.orders z := fun z hz => by
    unfold conjL at hz
    obtain ⟨y, hy, rfl⟩ := List.mem_map.1 hz
    exact G.conjV (hL y hy) hX
  have HC := Lib.hid (And.intro hCV hcl); clear hCV hcl
  go_enter Tryz.func136, Tryz.ntmps136
  go_wp2_with fail
  refine Calls.mono hcon ?_
  rintro e1 w1 ⟨v1, rfl, hg1, hO⟩
  clear hcon
  have hR := RowsD.rows (hO.toD (by rw [HC.out.2]; omega))
  obtain ⟨a1, cap1, hv1, _, _⟩ := Sl.shape hR
  subst hv1
  go_wp2_with fail
  refine Calls.mono (generated_ok P G w1 _ _ (conjL P L X) Sp _ (hp.ext hg1) hR HC.out.1 (by rw [HC.out.2]; omega)) ?_
  rintro e2 w2 ⟨v2, rfl, hg2, hO2⟩
  go_wp2
  go_ret
  exact ⟨_, rfl, grown_trans hg1 hg2, hO2.weak hg1.size⟩

end Go.Proofs.YtdklekdpdbjfiaaGreat

/- impl.isNormal. -/
namespace Go.Proofs.YtdklekdpdbjfiaaGreat
open Go.RowKit

theorem gensOf_vec {P : Pr} (hP : Valid P) : ∀ g ∈ gensOf P.orders.length, Vec P.orders g := fun g hg => by
  unfold gensOf at hg
  obtain ⟨k, _, rfl⟩ := List.mem_map.1 hg
  exact unitV_vec hP k

/-- the generators conjugate the list into H -/
def NormG (P : Pr) (H : List Int → Prop) (U : List (List Int)) : Prop := ∀ g ∈ gensOf P.orders.length, ∀ x ∈ U, H (rConj P x g)

set_option maxRecDepth 100000 in
set_option maxHeartbeats 2000000 in
theorem isNormal_ok (P : Pr) (G : Grp P) (w : World) (p uv : Value) (H : List Int → Prop) (Sp Su : Nat → Prop) (S : Sub P H) (hp : PresP Sp w p P) (hu : Rows2 Su w uv (cseq P H)) :
    Calls Tryz.prog 86 #[p, uv] w (Ret w fun _ v => ∃ r : Bool, v = .bool r ∧ (r = true ↔ NormG P H (cseq P H))) := by
  have hP := G.v
  have hn6 := hP.n6
  have hl := G.cseq_len S
  have hUH := (G.seq_facts S).2.1
  obtain ⟨pb, po, rfl⟩ := hp.shape
  obtain ⟨au, capu, rfl, _, _⟩ := Sl.shape hu
  have hgl : (gensOf P.orders.length).length ≤ 6 := by unfold gensOf; simp; omega
  have HG := Lib.hid (And.intro (gensOf_vec hP) hUH); clear hUH
  go_enter Tryz.func86, Tryz.ntmps86
  go_wp2_with fail
  refine Calls.mono (generators_ok P hP w _ Sp hp) ?_
  rintro e1 w1 ⟨v1, rfl, hg1, hO⟩
  have hR := RowsD.rows (hO.toD (by omega))
  obtain ⟨a1, cap1, hv1, _, _⟩ := Sl.shape hR
  subst hv1
  generalize hgs : gensOf P.orders.length = GS at *
  have HGS := Lib.hid hgs; clear hgs hO
  go_wp2
  go_loopw [12] (fun iv wr => ∃ i : Nat, iv = .int .i64 i ∧ i ≤ GS.length ∧ Ext w1 wr ∧ Hid (∀ j, j < i → ∀ x ∈ cseq P H, H (rConj P x (gt GS j)))) (fun iv _ => GS.length - (intOf iv).toNat)
  case atStart => exact ⟨0, rfl, by omega, Ext.refl _, Lib.hid (fun j h => by omega)⟩
  case round =>
    obtain ⟨i, rfl, hi, hg, hN⟩ := hrel
    by_cases hlt : i < GS.length
    · have hlt' : (i : Int) < GS.length := by omega
      obtain ⟨b, off, a2, cap2, rfl, _, _, hc, hgi⟩ := Rows2.at hR i hlt
      have hcr := hg.cell hc (by simp)
      have hgV := HG.out.1 _ (gtMem hlt)
      have HV := Lib.hid hgV; clear hgV
      go_wp2
      clear hcr
      go_loopw [18] (fun jv wr => ∃ j : Nat, jv = .int .i64 j ∧ j ≤ (cseq P H).length ∧ Ext w1 wr ∧ Hid (∀ l, l < j → H (rConj P (gt (cseq P H) l) (gt GS i)))) (fun jv _ => (cseq P H).length - (intOf jv).toNat)
      case atStart => exact ⟨0, rfl, by omega, hg, Lib.hid (fun j h => by omega)⟩
      case round =>
        clear hg
        obtain ⟨j, rfl, hj, hg, hM⟩ := hrel
        have hgw := grown_trans hg1 hg
        by_cases hjl : j < (cseq P H).length
        · have hjl' : (j : Int) < (cseq P H).length := by omega
          obtain ⟨b3, off3, a3, cap3, rfl, _, _, hc3, hr3⟩ := Rows2.at (Rows2.ext hu hgw) j hjl
          have hxV := S.vec _ (HG.out.2 _ (gtMem hjl))
          have HX := Lib.hid hxV; clear hxV
          go_wp2_with fail
          refine Calls.mono (conjugate_ok P hP wr _ _ _ (gt (cseq P H) j) (gt GS i) Sp _ _ (hp.ext hgw) hr3 (hgi.ext hg) HX.out HV.out) ?_
          rintro eC wC ⟨vC, rfl, hgC, hOC⟩
          rw [G.iConj_eq HX.out HV.out] at hOC
          have hcV := G.conjV HX.out HV.out
          have hCI := hOC.ints (by rw [hcV.1]; omega)
          obtain ⟨aC, capC, hvC, _, _⟩ := hCI.shape
          subst hvC
          have HCV := Lib.hid hcV; clear hcV
          have hgwC := grown_trans hgw hgC
          go_wp2_with fail
          refine Calls.mono (isMember_ok P G wC _ _ _ H (rConj P (gt (cseq P H) j) (gt GS i)) Sp Su Any S (hp.ext hgwC) (Rows2.ext hu hgwC) hCI HCV.out) ?_
          rintro eM wM ⟨vM, rfl, hgM, r, rfl, hr⟩
          have hgT := grown_trans (grown_trans hg hgC) hgM
          cases r with
          | true =>
            have HR := Lib.hid (hr.1 rfl); clear hr
            go_wp2
            go_roundw
            case rel => exact ⟨j + 1, by go_num, by omega, hgT, Lib.hid (fun l hl => by
              rcases Nat.lt_succ_iff_lt_or_eq.1 hl with h | h
              · exact hM.out l h
              · rw [h]; exact HR.out)⟩
            case measure => simp [intOf]; omega
          | false =>
            have hno : ¬ H (rConj P (gt (cseq P H) j) (gt GS i)) := fun h => by have := hr.2 h; cases this
            have HR := Lib.hid hno; clear hr hno
            go_wp2
            go_ret
            exact ⟨_, rfl, grown_trans hg1 hgT, false, rfl, by
              simp only [Bool.false_eq_true, false_iff]
              intro h
              unfold NormG at h
              rw [HGS.out] at h
              exact HR.out (h _ (gtMem hlt) _ (gtMem hjl))⟩
        · have hje : j = (cseq P H).length := by omega
          subst hje
          go_wp2
          go_roundw
          case rel => exact ⟨i + 1, by go_num, by omega, hg, Lib.hid (fun l hl => by
            rcases Nat.lt_succ_iff_lt_or_eq.1 hl with h | h
            · exact hN.out l h
            · rw [h]
              intro x hx
              obtain ⟨m, hm, rfl⟩ := List.getElem_of_mem hx
              rw [← gt_eq _ m hm]; exact hM.out m hm)⟩
          case measure => simp [intOf]; omega
    · have hie : i = GS.length := by omega
      subst hie
      go_wp2
      go_ret
      exact ⟨_, rfl, grown_trans hg1 hg, true, rfl, by
        simp only [true_iff]
        unfold NormG
        rw [HGS.out]
        intro g hgm x hx
        obtain ⟨l, hl, rfl⟩ := List.getElem_of_mem hgm
        rw [← gt_eq _ l hl]; exact hN.out l hl x hx⟩

end Go.Proofs.YtdklekdpdbjfiaaGreat

/- Plain: the greatest normal subgroup within a subgroup. -/
namespace Go.Proofs.YtdklekdpdbjfiaaGreat

/-- the elements all of whose conjugates lie in H -/
def coreP (P : Pr) (H : List Int → Prop) (x : List Int) : Prop := Vec P.orders x ∧ ∀ g, Vec P.orders g → H (rConj P x g)
def NormP (P : Pr) (K : List Int → Prop) : Prop := ∀ x, K x → ∀ g, Vec P.orders g → K (rConj P x g)
/-- the conjugates of the elements of a subgroup -/
def cjS (P : Pr) (K : List Int → Prop) (g x : List Int) : Prop := ∃ y, K y ∧ x = rConj P y g

section
variable {P : Pr} (G : Grp P)
include G

theorem Grp.conj_zeros {g : List Int} (hg : Vec P.orders g) : rConj P (zeros P.orders.length) g = zeros P.orders.length := by
  unfold rConj
  rw [G.grp.el _ hg, G.inv_mul hg]

theorem Grp.conj_inv {x g : List Int} (hx : Vec P.orders x) (hg : Vec P.orders g) : rConj P (rInv P x) g = rInv P (rConj P x g) := by
  refine G.inv_of (G.conjV hx hg) (G.conjV (G.invV hx) hg) ?_
  rw [← G.conj_hom hx (G.invV hx) hg, G.mul_inv hx, G.conj_zeros hg]

/-- the elements whose conjugates by g lie in a subgroup -/
theorem Grp.pull_sub {H : List Int → Prop} (S : Sub P H) {g : List Int} (hg : Vec P.orders g) : Sub P (fun y => Vec P.orders y ∧ H (rConj P y g)) :=
  ⟨fun _ h => h.1, ⟨G.oneV, by rw [G.conj_zeros hg]; exact S.one⟩, fun x y hx hy => ⟨G.mulV hx.1 hy.1, by rw [G.conj_hom hx.1 hy.1 hg]; exact S.mul _ _ hx.2 hy.2⟩,
    fun x hx => ⟨G.invV hx.1, by rw [G.conj_inv hx.1 hg]; exact S.inv _ hx.2⟩⟩

theorem Grp.core_sub {H : List Int → Prop} (S : Sub P H) : Sub P (coreP P H) :=
  ⟨fun _ h => h.1, ⟨G.oneV, fun g hg => by rw [G.conj_zeros hg]; exact S.one⟩, fun x y hx hy => ⟨G.mulV hx.1 hy.1, fun g hg => by rw [G.conj_hom hx.1 hy.1 hg]; exact S.mul _ _ (hx.2 g hg) (hy.2 g hg)⟩,
    fun x hx => ⟨G.invV hx.1, fun g hg => by rw [G.conj_inv hx.1 hg]; exact S.inv _ (hx.2 g hg)⟩⟩

theorem Grp.core_le {H : List Int → Prop} (x : List Int) (h : coreP P H x) : H x := by
  have := h.2 _ G.oneV
  rwa [G.conj_one h.1] at this

theorem Grp.core_norm {H : List Int → Prop} : NormP P (coreP P H) := fun x hx g hg =>
  ⟨G.conjV hx.1 hg, fun k hk => by rw [G.conj_mul hx.1 hg hk]; exact hx.2 _ (G.mulV hg hk)⟩

theorem Grp.cj_sub {K : List Int → Prop} (S : Sub P K) {g : List Int} (hg : Vec P.orders g) : Sub P (cjS P K g) := by
  refine ⟨?_, ⟨_, S.one, (G.conj_zeros hg).symm⟩, ?_, ?_⟩
  · rintro x ⟨y, hy, rfl⟩; exact G.conjV (S.vec y hy) hg
  · rintro x x' ⟨y, hy, rfl⟩ ⟨y', hy', rfl⟩
    exact ⟨_, S.mul _ _ hy hy', (G.conj_hom (S.vec y hy) (S.vec y' hy') hg).symm⟩
  · rintro x ⟨y, hy, rfl⟩
    exact ⟨_, S.inv _ hy, (G.conj_inv (S.vec y hy) hg).symm⟩

/-- what the conjugates of the sequence generate -/
theorem Grp.genP_conjL {K : List Int → Prop} (S : Sub P K) {g : List Int} (hg : Vec P.orders g) : genP P (fun z => z ∈ conjL P (cseq P K) g) = cjS P K g := by
  have hf := (G.seq_facts S).2.1
  have hV : ∀ z, z ∈ conjL P (cseq P K) g → Vec P.orders z := fun z hz => by
    unfold conjL at hz
    obtain ⟨y, hy, rfl⟩ := List.mem_map.1 hz
    exact G.conjV (S.vec y (hf y hy)) hg
  have S2 := G.genP_sub (Q := fun z => z ∈ conjL P (cseq P K) g) hV
  refine funext fun x => propext ⟨fun h => h _ (G.cj_sub S hg) (fun z hz => ?_), ?_⟩
  · unfold conjL at hz
    obtain ⟨y, hy, rfl⟩ := List.mem_map.1 hz
    exact ⟨y, hf y hy, rfl⟩
  · rintro ⟨y, hy, rfl⟩
    have h1 : genP P (fun z => z ∈ cseq P K) y := by rw [G.genP_cseq S]; exact hy
    exact (h1 _ (G.pull_sub S2 hg) (fun z hz => ⟨S.vec z (hf z hz), genP_mem (List.mem_map.2 ⟨z, hz, rfl⟩)⟩)).2

omit G in
theorem cj_mono {K K' : List Int → Prop} {g x : List Int} (h : ∀ y, K y → K' y) (hx : cjS P K g x) : cjS P K' g x := by
  obtain ⟨y, hy, rfl⟩ := hx; exact ⟨y, h y hy, rfl⟩

/-- a normal subgroup within K lies within the conjugates of K -/
theorem Grp.norm_cj {N K : List Int → Prop} (hN : NormP P N) (hv : ∀ x, N x → Vec P.orders x) (h : ∀ x, N x → K x) {g : List Int} (hg : Vec P.orders g) (x : List Int) (hx : N x) : cjS P K g x := by
  have hi := G.invV hg
  refine ⟨rConj P x (rInv P g), h _ (hN x hx _ hi), ?_⟩
  rw [G.conj_mul (hv x hx) hi hg, G.inv_mul hg, G.conj_one (hv x hx)]

/-- the generators suffice -/
theorem Grp.norm_of_gens {K : List Int → Prop} (S : Sub P K) (h : ∀ j, j < P.orders.length → ∀ x, K x → K (rConj P x (unitV P.orders.length j))) : NormP P K := by
  have key : ∀ g, Vec P.orders g → ∀ x, K x → K (rConj P x g) := fun g hg => by
    refine G.gen_ind (fun g => ∀ x, K x → K (rConj P x g)) (fun x hx => ?_) (fun y j hy ih hj x hx => ?_) hg
    · rw [G.conj_one (S.vec x hx)]; exact hx
    · have hu := unitV_vec G.v j
      rw [← G.conj_mul (S.vec x hx) hy hu]
      exact h j hj _ (ih x hx)
  exact fun x hx g hg => key g hg x hx

omit G in
theorem gensOf_at (n j : Nat) (hj : j < n) : gt (gensOf n) j = unitV n j := by
  unfold gensOf
  have h : j < (List.range n).length := by rw [List.length_range]; exact hj
  rw [gt_map _ _ _ h]
  simp [gt, hj]
omit G in
theorem gensOf_len (n : Nat) : (gensOf n).length = n := by unfold gensOf; simp

theorem Grp.norm_iff {K : List Int → Prop} (S : Sub P K) : NormG P K (cseq P K) ↔ NormP P K := by
  have hf := (G.seq_facts S).2.1
  constructor
  · intro h
    refine G.norm_of_gens S (fun j hj x hx => ?_)
    have hu := unitV_vec G.v j
    have h1 : genP P (fun z => z ∈ cseq P K) x := by rw [G.genP_cseq S]; exact hx
    have hm : unitV P.orders.length j ∈ gensOf P.orders.length := by rw [← gensOf_at _ _ hj]; exact gtMem (by rw [gensOf_len]; exact hj)
    exact (h1 _ (G.pull_sub S hu) (fun z hz => ⟨S.vec z (hf z hz), h _ hm z hz⟩)).2
  · intro h g hg x hx
    exact h x (hf x hx) g (gensOf_vec G.v g hg)

/-- a subgroup that lies within its conjugates by the generators is normal -/
theorem Grp.norm_of_cj {K : List Int → Prop} (S : Sub P K) (h : ∀ j, j < P.orders.length → ∀ x, K x → cjS P K (unitV P.orders.length j) x) : NormP P K := by
  refine G.norm_of_gens S (fun j hj => ?_)
  obtain ⟨g, hg⟩ : ∃ g, g = unitV P.orders.length j := ⟨_, rfl⟩
  have hV : Vec P.orders g := by rw [hg]; exact unitV_vec G.v j
  rw [← hg]
  have hi := G.invV hV
  have hA : ∀ x, K x → K (rConj P x (rInv P g)) := fun x hx => by
    obtain ⟨y, hy, he⟩ := h j hj x hx
    rw [← hg] at he
    rw [he, G.conj_back (S.vec y hy) hV]; exact hy
  have hpw : ∀ k x, K x → K (rConj P x (pw P (rInv P g) k)) := fun k => by
    induction k with
    | zero => intro x hx; rw [pw_zero, G.conj_one (S.vec x hx)]; exact hx
    | succ k ih =>
      intro x hx
      rw [pw_succ, ← G.conj_mul (S.vec x hx) (G.pw_vec hi k) hi]
      exact hA _ (ih x hx)
  obtain ⟨k, hk⟩ := G.inv_pw hi
  rw [G.inv_inv hV] at hk
  intro x hx
  rw [hk]; exact hpw k x hx

/-- a subgroup within another one has no longer sequence; with as long a one it is the same -/
theorem Grp.len_le {K' K : List Int → Prop} (S' : Sub P K') (S : Sub P K) (h : ∀ x, K' x → K x) : (cseq P K').length ≤ (cseq P K).length ∧ ((cseq P K').length = (cseq P K).length → ∀ x, K x → K' x) := by
  obtain ⟨r', hR', he'⟩ := G.cseq_spec S'
  obtain ⟨r, hR, he⟩ := G.cseq_spec S
  have hl' : (cseq P K').length = (depsOf P.orders.length r').length := by rw [he', seqOf_map, List.length_map]
  have hl : (cseq P K).length = (depsOf P.orders.length r).length := by rw [he, seqOf_map, List.length_map]
  have himp : ∀ d, d < P.orders.length → r' d ≠ [] → r d ≠ [] := fun d hd hne => by
    obtain ⟨m1, m2, m3⟩ := hR'.mem d hd hne
    exact hR.piv _ (h _ m1) d hd m2 (by rw [m3]; decide)
  have hff : (depsOf P.orders.length r').length = ((depsOf P.orders.length r).filter (fun d => decide (r' d ≠ []))).length := by
    unfold depsOf
    rw [List.filter_filter]
    congr 1
    refine List.filter_congr (fun d hd => ?_)
    have hd := List.mem_range.1 hd
    by_cases h1 : r' d = []
    · simp [h1]
    · simp [h1, himp d hd h1]
  rw [hl', hl, hff]
  refine ⟨List.length_filter_le _ _, fun heq x hx => ?_⟩
  have hall := List.length_filter_eq_length_iff.1 heq
  have I' : Ind P K (r') := ⟨S, fun d hd hne => ⟨h _ (hR'.mem d hd hne).1, (hR'.mem d hd hne).2⟩, fun y hy d hd hT h0 => by
    have h1 := hR.piv y hy d hd hT h0
    have h2 := hall d (depsOf_mem.2 ⟨hd, h1⟩)
    exact of_decide_eq_true h2⟩
  exact G.ind_same hR'.toInd I' h x hx

end

end Go.Proofs.YtdklekdpdbjfiaaGreat

/- Maps that a call makes, by a general reading: what stands under each key. -/
namespace Go.Proofs.YtdklekdpdbjfiaaGreat
open Go.RowKit
open Go.Maps (Keyed)

/-- a kind of maps: keys κ, elements ν -/
structure MapK (κ ν : Type) where
  t : TypeId
  k : TypeId
  e : TypeId
  kv : κ → Value
  kl : κ → Lit
  okK : κ → Prop
  ev : ν → Value
  el : ν → Lit
  okV : ν → Prop
  z : ν
  keyed : Keyed Tryz.prog k
  und : Tryz.prog.underlying t = some (.map k e)
  key : ∀ a, okK a → keyOf Tryz.prog k (kv a) = some (kl a)
  inj : ∀ a c, kl a = kl c → a = c
  isKey : ∀ a, WideAt.IsKeyLit (kl a)
  elem : ∀ x, okV x → plainElem (H := Unit) Tryz.prog e (ev x) = some (.lit (el x), [])
  inv : ∀ v x ps, plainElem (H := Unit) Tryz.prog e v = some (.lit (el x), ps) → v = ev x
  zero : ∀ w, (zeroValue e).run Tryz.prog w = .ok (ev z) w
  okz : okV z

variable {κ ν : Type}

/-- the map in block b: under each key a stands f a; at most m keys -/
def MapAt (M : MapK κ ν) (w : World) (b : Nat) (f : κ → ν) (m : Nat) : Prop :=
  ∃ (n : Nat) (D : DataW Unit), w.ownsMap Tryz.prog M.k (plainElem Tryz.prog M.e) b n D ∧ n ≤ m ∧ Maps.IsMap D ∧ ∀ a, M.okK a → D.atKey (M.kl a) (.lit (M.el M.z)) = .lit (M.el (f a))

theorem MapAt.made (M : MapK κ ν) (w : World) : MapAt M (w.alloc (.map #[] 0)) w.heap.size (fun _ => M.z) 0 :=
  ⟨0, .map [], World.ownsMap_made _ _ _ _, Nat.le_refl _, Maps.isMap_empty, fun a _ => by simp [WideAt.atKey_none]⟩
theorem MapAt.lt {M : MapK κ ν} {w : World} {b : Nat} {f : κ → ν} {m : Nat} (h : MapAt M w b f m) : b < w.heap.size := by
  obtain ⟨n, D, h, _⟩ := h
  exact h.lt
theorem MapAt.kept {M : MapK κ ν} {w w' : World} {b : Nat} {f : κ → ν} {m : Nat} {r : Option Nat} (h : MapAt M w b f m) (hg : w.grownBy w' r) (hne : some b ≠ r) : MapAt M w' b f m := by
  obtain ⟨n, D, h, h2⟩ := h
  exact ⟨n, D, h.kept hg hne, h2⟩
theorem MapAt.ext {M : MapK κ ν} {w w' : World} {b : Nat} {f : κ → ν} {m : Nat} (h : MapAt M w b f m) (hg : Ext w w') : MapAt M w' b f m := h.kept hg (by simp)
theorem MapAt.le {M : MapK κ ν} {w : World} {b : Nat} {f : κ → ν} {m m' : Nat} (h : MapAt M w b f m) (hm : m ≤ m') : MapAt M w b f m' := by
  obtain ⟨n, D, h, h2, h3⟩ := h
  exact ⟨n, D, h, Nat.le_trans h2 hm, h3⟩
theorem MapAt.look {M : MapK κ ν} {w : World} {b : Nat} {f : κ → ν} {m : Nat} (h : MapAt M w b f m) (a : κ) (ha : M.okK a) :
    (Instr.lookup M.t (.map (some b)) (M.kv a) false).run Tryz.prog w = .ok (M.ev (f a)) w := by
  obtain ⟨n, D, h, _, _, hat⟩ := h
  obtain ⟨v, ps, hrun, hv⟩ := h.lookup M.keyed M.und (M.zero w) (M.elem M.z M.okz) (M.key a ha)
  rw [hat a ha] at hv
  rw [hrun, M.inv _ _ _ hv]
theorem MapAt.update [DecidableEq κ] {M : MapK κ ν} {w : World} {b : Nat} {f : κ → ν} {m : Nat} (h : MapAt M w b f m) (a : κ) (ha : M.okK a) (x : ν) (hx : M.okV x) (hl : m ≤ 1048576) :
    ∃ w', (Instr.mapUpdate M.t (.map (some b)) (M.kv a) (M.ev x)).run Tryz.prog w = .ok () w' ∧ MapAt M w' b (fun c => if c = a then x else f c) (m + 1) ∧ w.grownBy w' (some b) := by
  obtain ⟨n, D, h, hn, hM, hat⟩ := h
  obtain ⟨w', hrun, hown, hg⟩ := h.update M.keyed M.und (by unfold maxLen; omega) (M.key a ha) (M.elem x hx)
  refine ⟨w', hrun, ⟨n + 1, _, hown, by omega, hM.put _ _, ?_⟩, hg⟩
  intro c hc
  by_cases he : c = a
  · subst he
    rw [Maps.atKey_put_same hM (M.isKey c)]; simp
  · rw [Maps.atKey_put_other (fun e => he (M.inj _ _ e)), hat c hc]; simp [he]
end Go.Proofs.YtdklekdpdbjfiaaGreat

/- impl.keyOf: the bytes of all entries, each row closed by a semicolon. -/
namespace Go.Proofs.YtdklekdpdbjfiaaGreat
open Go.RowKit

def keyRow (x : List Int) : List Int := x ++ [59]
def keyL (u : List (List Int)) : List Int := (u.map keyRow).flatten
def keyS (u : List (List Int)) : ByteArray := strOfNums (keyL u)
/-- the bytes as cells -/
def byV (l : List Int) : List Value := l.map (Value.int .u8)

theorem keyL_take (u : List (List Int)) (k : Nat) (h : k < u.length) : keyL (u.take (k + 1)) = keyL (u.take k) ++ keyRow (gt u k) := by
  unfold keyL
  rw [take_succ_gt u k h, List.map_append, List.flatten_append]
  simp

theorem keyL_len (u : List (List Int)) (b : Nat) (h : ∀ x ∈ u, x.length ≤ b) : (keyL u).length ≤ (b + 1) * u.length := by
  induction u with
  | nil => simp [keyL]
  | cons x u ih =>
    have h1 := ih (fun y hy => h y (List.mem_cons_of_mem _ hy))
    have h2 := h x (List.mem_cons_self ..)
    unfold keyL at h1 ⊢
    simp only [List.map_cons, List.flatten_cons, List.length_append, List.length_cons, keyRow, List.length_nil, Nat.mul_succ]
    omega

theorem keyS_size (u : List (List Int)) : (keyS u).size = (keyL u).length := strOfNums_size _

theorem und_bytes : Tryz.prog.underlying 165 = some (.slice 5) := by kernel_rfl
theorem und_byte : Tryz.prog.underlying 5 = some (.int .u8) := by kernel_rfl
theorem und_str : Tryz.prog.underlying 9 = some .string := by kernel_rfl
theorem Tryz.infoByte : (Tryz.prog.info? 5).map (fun i => (i.zero, i.size, i.bytes)) = some (some (.int .u8 0), 1, 1) := by kernel_rfl

theorem conv_bytes {B : Nat} {w : World} {v : Value} {l : List Int} (h : OwnV B 5 w v (byV l)) : (convert 165 9 v).run Tryz.prog w = .ok (.string (strOfNums l)) w := by
  rcases h.form with ⟨rfl, h2⟩ | ⟨g, cap, rfl, _⟩
  · have : l = [] := by unfold byV at h2; rw [List.map_eq_nil_iff] at h2; exact h2
    subst this
    rw [run_convert_bytes_nil w _ _ und_bytes und_byte 0 0 _ und_str]
    rfl
  · have hl : (byV l).length = l.length := by unfold byV; rw [List.length_map]
    rw [hl]
    refine run_convert_bytes_arg w _ _ und_bytes und_byte g 0 l.length cap l rfl (fun i hi => ?_) _ und_str
    have := h.cell i (by rw [hl]; exact hi)
    rw [Nat.zero_add, this]
    unfold byV
    rw [gt_map _ _ _ hi]; rfl

set_option maxHeartbeats 4000000 in
theorem keyOf_ok (u : List (List Int)) (w : World) (uv : Value) (S : Nat → Prop) (h : Rows2 S w uv u) (hb : ∀ x ∈ u, ∀ e ∈ x, 0 ≤ e ∧ e < 256) (hr : ∀ x ∈ u, x.length ≤ 1000) (hn : u.length ≤ 100) :
    Calls Tryz.prog 137 #[uv] w (Ret w fun _ v => v = .string (keyS u)) := by
  obtain ⟨au, capu, rfl, _, _⟩ := Sl.shape h
  have hlen : ∀ k, (keyL (u.take k)).length ≤ 1001 * 100 := fun k => by
    have h1 := keyL_len (u.take k) 1000 (fun x hx => hr x (List.mem_of_mem_take hx))
    have : (u.take k).length ≤ 100 := by rw [List.length_take]; omega
    have := Nat.mul_le_mul_left 1001 this
    omega
  have HB := Lib.hid (And.intro hb (And.intro hr hlen)); clear hb hr hlen
  go_enter Tryz.func137, Tryz.ntmps137
  go_wp2
  go_loopw [3, 10] (fun ov iv wr => ∃ (k : Nat) (v4 : Value), v4 = ov ∧ iv = .int .i64 k ∧ k ≤ u.length ∧ Ext w wr ∧ OwnV w.heap.size 5 wr v4 (byV (keyL (u.take k)))) (fun _ iv _ => u.length - (intOf iv).toNat)
  case atStart => exact ⟨0, _, rfl, rfl, by omega, Ext.refl _, World.ownsRow_nil _ _ _ _⟩
  case round =>
    obtain ⟨k, v4, rfl, rfl, hk, hg, hO⟩ := hrel
    by_cases hlt : k < u.length
    · have hlt' : (k : Int) < u.length := by omega
      obtain ⟨b, off, a2, cap2, rfl, _, _, hc0, hi⟩ := Rows2.at h k hlt
      have hc := hg.cell hc0 (by simp)
      clear hc0
      have hx := HB.out.1 _ (gtMem hlt)
      have hxl := HB.out.2.1 _ (gtMem hlt)
      have hstep := keyL_take u k hlt
      have hlk := HB.out.2.2 k
      obtain ⟨x, hxd⟩ : ∃ x, x = gt u k := ⟨_, rfl⟩
      rw [← hxd] at hx hxl hstep hc hi
      obtain ⟨l0, hl0⟩ : ∃ l0, l0 = keyL (u.take k) := ⟨_, rfl⟩
      rw [← hl0] at hstep hlk hO
      have HX := Lib.hid (And.intro hx (And.intro hxl (And.intro hstep (And.intro hlk (And.intro hxd hl0))))); clear hx hxl hstep hlk hxd hl0
      have hxl2 : x.length ≤ 1000 := HX.out.2.1
      go_wp2
      clear hc
      go_loopw [3, 16] (fun ov jv wr => ∃ (j : Nat) (v4 : Value), v4 = ov ∧ jv = .int .i64 j ∧ j ≤ x.length ∧ Ext w wr ∧ OwnV w.heap.size 5 wr v4 (byV (l0 ++ x.take j))) (fun _ jv _ => x.length - (intOf jv).toNat)
      case atStart => exact ⟨0, v4, rfl, rfl, by omega, hg, by rw [List.take_zero, List.append_nil]; exact hO⟩
      case round =>
        clear hO hg
        obtain ⟨j, v4, rfl, rfl, hj, hg, hO⟩ := hrel
        by_cases hltj : j < x.length
        · have hltj' : (j : Int) < x.length := by omega
          obtain ⟨b2, off2, rfl, _, _, hcj⟩ := Ints.at (Ints.ext hi hg) j hltj
          have hx := HX.out.1 _ (gtMem hltj)
          have hst : byV (l0 ++ x.take (j + 1)) = byV (l0 ++ x.take j) ++ [.int .u8 (gt x j)] := by
            unfold byV
            rw [take_succ_gt x j hltj, ← List.append_assoc, List.map_append]; rfl
          have hlen : (byV (l0 ++ x.take j)).length ≤ 1000000 := by
            have h1 := HX.out.2.1
            have h2 := HX.out.2.2.2.1
            unfold byV
            rw [List.length_map, List.length_append, List.length_take]; omega
          obtain ⟨e, he⟩ : ∃ e, e = gt x j := ⟨_, rfl⟩
          rw [← he] at hx hst hcj
          have hw8 : IntKind.u8.wrap e = e := by
            simp only [IntKind.wrap, IntKind.signed, IntKind.bits]
            simp; omega
          have HS := Lib.hid (And.intro hst (And.intro hlen (And.intro he hx))); clear hst hlen he hx
          go_wp2_with (first | (at_builtin; refine wp_app_val 165 5 (.int .u8 0) 1 und_bytes Tryz.infoByte rfl (by decide) rfl _ _ rfl w.heap.size v4 _ (byV (l0 ++ x.take j)) rfl wr hO rfl rfl rfl HS.out.2.1 hg.size ?_; intro v5 w5 hO5 hg5; have hg6 : Ext w w5 := grown_own hg hg5 (fun j hj hlt => by have := (hO.lt j hj).1; omega)) | fail)
          go_roundw
          case rel => exact ⟨j + 1, v5, rfl, by go_num, by omega, hg6, by rw [HS.out.1]; exact hO5⟩
          case measure => simp [intOf]; omega
        · have hje : j = x.length := by omega
          subst hje
          rw [List.take_length] at hO
          have hst : byV (keyL (u.take (k + 1))) = byV (l0 ++ x) ++ [.int .u8 59] := by
            rw [HX.out.2.2.1]
            unfold byV keyRow
            rw [← List.append_assoc, List.map_append (l₂ := [59])]; rfl
          have hlen : (byV (l0 ++ x)).length ≤ 1000000 := by
            have h1 := HX.out.2.1
            have h2 := HX.out.2.2.2.1
            unfold byV
            rw [List.length_map, List.length_append]; omega
          have HS := Lib.hid (And.intro hst hlen); clear hst hlen
          go_wp2_with (first | (at_builtin; refine wp_app_val 165 5 (.int .u8 0) 1 und_bytes Tryz.infoByte rfl (by decide) rfl _ _ rfl w.heap.size v4 _ (byV (l0 ++ x)) rfl wr hO rfl rfl rfl HS.out.2 hg.size ?_; intro v5 w5 hO5 hg5; have hg6 : Ext w w5 := grown_own hg hg5 (fun j hj hlt => by have := (hO.lt j hj).1; omega)) | fail)
          go_roundw
          case rel => exact ⟨k + 1, v5, rfl, by go_num, by omega, hg6, by rw [HS.out.1]; exact hO5⟩
          case measure => simp [intOf]; omega
    · have hke : k = u.length := by omega
      subst hke
      rw [List.take_length] at hO
      have hcv := conv_bytes hO
      have hsh : ∃ az nz capz, v4 = .slice az nz capz := by
        rcases hO.form with ⟨h1, _⟩ | ⟨g, cp, h1, _⟩
        · exact ⟨_, _, _, h1⟩
        · exact ⟨_, _, _, h1⟩
      obtain ⟨az, nz, capz, rfl⟩ := hsh
      go_wp2
      go_ret
      exact ⟨_, rfl, hg, rfl⟩

end Go.Proofs.YtdklekdpdbjfiaaGreat

/- The lattice's maps: masks seen; the mask of a key. -/
namespace Go.Proofs.YtdklekdpdbjfiaaGreat
open Go.RowKit
open Go.Maps (Keyed)

theorem und_boolL : Tryz.prog.underlying 4 = some .bool := by kernel_rfl
/-- a map's block is no slice's -/
theorem MapAt.ne {κ ν : Type} {M : MapK κ ν} {w : World} {b B E m : Nat} {f : κ → ν} {v : Value} {xs : List Value} (h : MapAt M w b f m) (hO : OwnV B E w v xs) : some b ≠ v.ownBlock := by
  obtain ⟨n, D, ⟨es, clock, hb, _⟩, _⟩ := h
  obtain ⟨_, ⟨rfl, _⟩ | ⟨g, cap, cur, rfl, _, hc, _⟩⟩ := hO
  · intro e; cases e
  · intro e
    cases e
    rw [hc] at hb; cases hb

end Go.Proofs.YtdklekdpdbjfiaaGreat

/- append of one integer inside a region that draws its order. -/
namespace Go.Proofs.YtdklekdpdbjfiaaGreat
open Go.RowKit

theorem step_app_int {ops : Array Oper} {o : Oper} {a : Act} {K : Act → World → Prop} {Q : Exit → Act → World → Prop} {Ex : Prop} {w : World} (hgd : o.guard = none) (s x : Operand)
    (ho : o.op = Op.call { callee := Callee.builtin Builtin.append, args := #[s, x], argTypes := #[22, 22] }) (B : Nat) (v : Value) (l : List Int) (y : Int) (hs : a.eval s = v) (w2 : World) (hown : Own B w2 v l)
    (hw : w = w2.alloc (.cells #[.int .i64 y] 2)) (hx : a.eval x = .slice (some ⟨w2.heap.size, 0, none⟩) 1 1) (hlen : l.length ≤ 1000000) (hbase : B ≤ w2.heap.size)
    (h : ∀ v' w', Own B w' v' (l ++ [y]) → w2.grownBy w' v.ownBlock → K (a.put o.dst v') w') :
    if Region.wanted o (yielded ops a.tmps) = true then Oper.wp Tryz.prog o a w K Q else Ex := by
  subst hw
  have hga : Ext w2 (w2.alloc (.cells #[.int .i64 y] 2)) := World.grownBy_alloc _ _ _
  refine step_app 22 2 (.int .i64 0) 8 und_ints Tryz.infoInt rfl (by decide) hgd s x ho B v (l.map (Value.int .i64)) hs (hown.ext0 hga).v w2.heap.size (.int .i64 y) hx (by rw [World.cell?_alloc_at _ _ _ _ rfl]; rfl) rfl (by simpa using (by omega : l.length ≤ 2000000)) (by have := hga.size; omega) ?_
  intro v' w' h1 h2 _
  exact h v' w' (Own.of (by rw [List.map_append]; exact h1)) (grown_trans (grown_of_ext _ hga) h2)

end Go.Proofs.YtdklekdpdbjfiaaGreat

/- The lattice behind a pointer. -/
namespace Go.Proofs.YtdklekdpdbjfiaaGreat
open Go.RowKit

theorem MapAt.congr {κ ν : Type} {M : MapK κ ν} {w : World} {b : Nat} {f f' : κ → ν} {m : Nat} (h : MapAt M w b f m) (he : ∀ a, f a = f' a) : MapAt M w b f' m := by
  have : f = f' := funext he
  rw [← this]; exact h

theorem und_r3 : Tryz.prog.underlying 24 = some (.slice 23) := by kernel_rfl
theorem Tryz.infoR3 : (Tryz.prog.info? 23).map (fun i => (i.zero, i.size, i.bytes)) = some (some (.slice none 0 0), 1, 24) := by kernel_rfl
end Go.Proofs.YtdklekdpdbjfiaaGreat

/- The list of all subgroups as one value; its bounds. -/
namespace Go.Proofs.YtdklekdpdbjfiaaGreat
open Go.RowKit

theorem sz_bnd {α : Type} [Inhabited α] (sz : α → Nat) (xs : List α) (b : Nat) (h : ∀ x ∈ xs, sz x ≤ b) (k : Nat) (hk : k ≤ xs.length) : szTo sz xs k ≤ b * k := by
  induction k with
  | zero => simp [szTo]
  | succ k ih =>
    have h1 := ih (by omega)
    have h2 := h _ (gt_mem (l := xs) (i := k) (by omega))
    simp only [szTo, Nat.mul_succ]; omega

section
variable {P : Pr} (G : Grp P)
include G
end

/-- a part of the list of all subgroups: its size -/
theorem part_tot {X : List (List (List Int))} (hl : X.length ≤ 17408) (hr : ∀ u ∈ X, u.length ≤ 6 ∧ ∀ x ∈ u, x.length ≤ 6) : tot3 X ≤ 100000000 := by
  have h2 : ∀ u ∈ X, tot2 u ≤ 36 := fun u hu => by
    have := sz_bnd List.length u 6 (hr u hu).2 _ (Nat.le_refl _)
    have := (hr u hu).1
    unfold tot2; omega
  have := sz_bnd tot2 X 36 h2 _ (Nat.le_refl _)
  unfold tot3; omega

end Go.Proofs.YtdklekdpdbjfiaaGreat

/- Plain: the conjugates of a subgroup, as sequences and as masks; the classes of conjugate subgroups. -/
namespace Go.Proofs.YtdklekdpdbjfiaaGreat
open Go.RowKit

/-- the conjugate of a subgroup -/
noncomputable def cjU (P : Pr) (u : List (List Int)) (x : List Int) : List (List Int) := cseq P (genP P (fun z => z ∈ conjL P u x))
abbrev gP (P : Pr) (u : List (List Int)) : List Int → Prop := genP P (fun z => z ∈ u)

section
variable {P : Pr} (G : Grp P)
include G

theorem Grp.cjU_gen {u : List (List Int)} (hu : SubB P u) {x : List Int} (hx : Vec P.orders x) : genP P (fun z => z ∈ conjL P u x) = cjS P (gP P u) x := by
  have h := G.genP_conjL (G.subB hu) hx
  rw [← hu.2] at h
  exact h
theorem Grp.cjU_eq {u : List (List Int)} (hu : SubB P u) {x : List Int} (hx : Vec P.orders x) : cjU P u x = cseq P (cjS P (gP P u) x) := by
  unfold cjU; rw [G.cjU_gen hu hx]
theorem Grp.cjU_subB {u : List (List Int)} (hu : SubB P u) {x : List Int} (hx : Vec P.orders x) : SubB P (cjU P u x) := by
  rw [G.cjU_eq hu hx]; exact G.subB_cseq (G.cj_sub (G.subB hu) hx)
theorem Grp.gP_cjU {u : List (List Int)} (hu : SubB P u) {x : List Int} (hx : Vec P.orders x) : gP P (cjU P u x) = cjS P (gP P u) x := by
  rw [G.cjU_eq hu hx]; exact G.genP_cseq (G.cj_sub (G.subB hu) hx)
end

open Classical in
/-- the conjugates of u by the first t elements that are new, behind those that were seen; how many they are -/
noncomputable def cnS (P : Pr) (u : List (List Int)) (S : List (List (List Int))) : Nat → List (List (List Int)) × Nat
  | 0 => (S, 0)
  | t + 1 => if cjU P u (elAt P (t : Int)) ∈ (cnS P u S t).1 then cnS P u S t else ((cnS P u S t).1 ++ [cjU P u (elAt P (t : Int))], (cnS P u S t).2 + 1)
theorem cnS_no {P : Pr} {u : List (List Int)} {S : List (List (List Int))} {t : Nat} (h : cjU P u (elAt P (t : Int)) ∈ (cnS P u S t).1) : cnS P u S (t + 1) = cnS P u S t := by
  rw [cnS, if_pos h]
theorem cnS_yes {P : Pr} {u : List (List Int)} {S : List (List (List Int))} {t : Nat} (h : ¬ cjU P u (elAt P (t : Int)) ∈ (cnS P u S t).1) :
    cnS P u S (t + 1) = ((cnS P u S t).1 ++ [cjU P u (elAt P (t : Int))], (cnS P u S t).2 + 1) := by
  rw [cnS, if_neg h]
theorem cnS_le (P : Pr) (u : List (List Int)) (S : List (List (List Int))) : ∀ t, (cnS P u S t).2 ≤ t
  | 0 => Nat.le_refl _
  | t + 1 => by
    have := cnS_le P u S t
    unfold cnS
    split
    · omega
    · show (cnS P u S t).2 + 1 ≤ t + 1
      omega
/-- what has been seen: subgroups, each once -/
structure SeenC (P : Pr) (S : List (List (List Int))) : Prop where
  sub : ∀ v ∈ S, SubB P v
  one : S.Nodup
theorem Grp.cnS_seen {P : Pr} (G : Grp P) {u : List (List Int)} (hu : SubB P u) {S : List (List (List Int))} (hS : SeenC P S) : ∀ t, t ≤ (ordP P).toNat → SeenC P (cnS P u S t).1
  | 0, _ => hS
  | t + 1, ht => by
    have ih := Grp.cnS_seen G hu hS t (by omega)
    by_cases h : cjU P u (elAt P (t : Int)) ∈ (cnS P u S t).1
    · rw [cnS_no h]; exact ih
    · rw [cnS_yes h]
      refine ⟨fun v hv => ?_, ?_⟩
      · rcases List.mem_append.1 hv with hv | hv
        · exact ih.sub v hv
        · rw [List.mem_singleton.1 hv]; exact G.cjU_subB hu (G.elAtV (by omega))
      · rw [List.nodup_append]
        exact ⟨ih.one, by simp, fun a ha b hb e => h (by rw [List.mem_singleton.1 hb] at e; rw [← e]; exact ha)⟩
theorem cnS_mem (P : Pr) (u : List (List Int)) (S : List (List (List Int))) : ∀ t v, v ∈ (cnS P u S t).1 ↔ v ∈ S ∨ ∃ j, j < t ∧ v = cjU P u (elAt P (j : Int))
  | 0, v => by simp [cnS]
  | t + 1, v => by
    have ih := cnS_mem P u S t
    by_cases h : cjU P u (elAt P (t : Int)) ∈ (cnS P u S t).1
    · rw [cnS_no h, ih v]
      constructor
      · rintro (h1 | ⟨j, h1, h2⟩)
        · exact .inl h1
        · exact .inr ⟨j, by omega, h2⟩
      · rintro (h1 | ⟨j, h1, h2⟩)
        · exact .inl h1
        · rcases Nat.lt_succ_iff_lt_or_eq.1 h1 with h3 | h3
          · exact .inr ⟨j, h3, h2⟩
          · subst h3; rw [h2]; exact (ih _).1 h
    · rw [cnS_yes h, List.mem_append, ih v, List.mem_singleton]
      constructor
      · rintro ((h1 | ⟨j, h1, h2⟩) | h1)
        · exact .inl h1
        · exact .inr ⟨j, by omega, h2⟩
        · exact .inr ⟨t, by omega, h1⟩
      · rintro (h1 | ⟨j, h1, h2⟩)
        · exact .inl (.inl h1)
        · rcases Nat.lt_succ_iff_lt_or_eq.1 h1 with h3 | h3
          · exact .inl (.inr ⟨j, h3, h2⟩)
          · subst h3; exact .inr h2
end Go.Proofs.YtdklekdpdbjfiaaGreat

/- Plain: Hall subgroups as sequences: the orders, the way up to one, their one class, the one ascending list. -/
namespace Go.Proofs.YtdklekdpdbjfiaaGreat
open Go.RowKit

section
variable {P : Pr} {G : Grp P}

def toE (G : Grp P) (H : List Int → Prop) : El G → Prop := fun x => H x.1
def ofE (A : El G → Prop) (x : List Int) : Prop := ∃ h : Vec P.orders x, A ⟨x, h⟩
theorem toE_sg {H : List Int → Prop} (S : Sub P H) : SG (toE G H) := ⟨S.one, fun _ _ h k => S.mul _ _ h k, fun _ h => S.inv _ h⟩
theorem ofE_sub {A : El G → Prop} (S : SG A) : Sub P (ofE A) :=
  ⟨fun _ h => h.1, ⟨G.oneV, S.one⟩, fun _ _ ⟨hx, ax⟩ ⟨hy, ay⟩ => ⟨G.mulV hx hy, S.mul _ _ ax ay⟩, fun _ ⟨hx, ax⟩ => ⟨G.invV hx, S.inv _ ax⟩⟩
theorem toE_ofE (A : El G → Prop) : toE G (ofE A) = A := funext fun x => propext ⟨fun ⟨_, h⟩ => h, fun h => ⟨x.2, h⟩⟩

theorem order_cd {H : List Int → Prop} (S : Sub P H) : prodU P (cseq P H) (cseq P H).length = (cd (toE G H) : Int) := by
  rw [G.order_elems S]
  have h1 : ((elsIn (toE G H)).map (fun x : El G => x.1)).Nodup := by
    refine List.nodup_iff_pairwise_ne.2 ?_
    rw [List.pairwise_map]
    exact (List.nodup_iff_pairwise_ne.1 (elsIn_nodup _)).imp (fun {a b} hab e => hab (Subtype.ext e))
  have h2 := (List.perm_ext_iff_of_nodup (elemsIn_nodup G.v H) h1).2 (fun x => by
    rw [elemsIn_mem G.v S.vec, List.mem_map]
    constructor
    · intro hx
      exact ⟨⟨x, S.vec x hx⟩, elsIn_mem.2 hx, rfl⟩
    · rintro ⟨y, hy, rfl⟩
      exact elsIn_mem.1 hy)
  rw [h2.length_eq, List.length_map]
  rfl

/-- the depths of a sequence -/
def pvU (G : Grp P) (u : List (List Int)) : Nat → Prop := pv (toE G (gP P u))
theorem ordU (G : Grp P) {u : List (List Int)} (hu : SubB P u) : prodU P u u.length = (prd P (pvU G u) P.orders.length 0 : Nat) := by
  have S := G.subB hu
  have h := order_cd (G := G) S
  rw [cd_eq (toE_sg S)] at h
  have e : cseq P (genP P fun x => x ∈ u) = u := hu.2.symm
  rw [e] at h
  exact h

/-- the product of the orders below d at the depths with a property -/
noncomputable def prF (P : Pr) (Q : Nat → Prop) (d : Nat) : Nat := prd P Q d 0
theorem prd_app (Q : Nat → Prop) : ∀ f d, prd P Q (f + 1) d = prd P Q f d * prd P Q 1 (d + f)
  | 0, d => by
    show prd P Q 1 d = 1 * prd P Q 1 (d + 0)
    rw [Nat.one_mul]; rfl
  | f + 1, d => by
    have ih := prd_app Q f (d + 1)
    rw [prd, ih, ← Nat.mul_assoc, show d + 1 + f = d + (f + 1) by omega]
    conv => rhs; rw [prd]
open Classical in
theorem prF_succ (Q : Nat → Prop) (d : Nat) : prF P Q (d + 1) = prF P Q d * (if Q d then (gt P.orders d).toNat else 1) := by
  unfold prF
  rw [prd_app, Nat.zero_add, prd, prd, Nat.mul_one]
/-- the order of Hall subgroups for the primes of a list -/
def hallTo (P : Pr) (pr : List Int) : Nat → Int
  | 0 => 1
  | k + 1 => if gt P.orders k ∈ pr then hallTo P pr k * gt P.orders k else hallTo P pr k
abbrev hallO (P : Pr) (pr : List Int) : Int := hallTo P pr P.orders.length
theorem hallTo_prF (G : Grp P) (pr : List Int) : ∀ k, k ≤ P.orders.length → hallTo P pr k = (prF P (fun d => gt P.orders d ∈ pr) k : Nat)
  | 0, _ => rfl
  | k + 1, h => by
    classical
    have ih := hallTo_prF G pr k (by omega)
    obtain ⟨q, h1, h2, h3⟩ := ordN G (show k < P.orders.length by omega)
    rw [hallTo, prF_succ, ih]
    by_cases hm : gt P.orders k ∈ pr
    · rw [if_pos hm, if_pos hm, Int.natCast_mul, h2, ← h1]
    · rw [if_neg hm, if_neg hm, Nat.mul_one]
theorem hallO_eq (G : Grp P) (pr : List Int) : hallO P pr = (prd P (fun d => gt P.orders d ∈ pr) P.orders.length 0 : Nat) := hallTo_prF G pr _ (Nat.le_refl _)

/-- the property: of the set's primes only -/
theorem prd_dvd_iff (G : Grp P) {Q R : Nat → Prop} (hQ : ∀ d, Q d → d < P.orders.length) (hR : ∀ j k, j < P.orders.length → k < P.orders.length → gt P.orders j = gt P.orders k → (R j ↔ R k)) :
    prd P Q P.orders.length 0 ∣ prd P R P.orders.length 0 ↔ ∀ d, Q d → R d := by
  constructor
  · intro h d hd
    refine Classical.byContradiction fun hn => ?_
    have hdn := hQ d hd
    obtain ⟨q, h1, h2, h3⟩ := ordN G hdn
    have hq : (gt P.orders d).toNat ∣ prd P Q P.orders.length 0 := by
      have hm := prd_mul (P := P) (Q := fun k => k = d) (R := fun k => Q k ∧ k ≠ d) P.orders.length 0 (fun k _ _ e hh => hh.2 e)
      have hc : prd P (fun k => k = d ∨ (Q k ∧ k ≠ d)) P.orders.length 0 = prd P Q P.orders.length 0 := prd_congr _ _ (fun k _ _ => ⟨fun hh => hh.elim (fun e => e ▸ hd) (fun hh => hh.1), fun hh => by
        by_cases e : k = d
        · exact .inl e
        · exact .inr ⟨hh, e⟩⟩)
      rw [← hc, ← hm]
      refine Nat.dvd_mul_right_of_dvd ?_ _
      have key : ∀ f s, s ≤ d → d < s + f → prd P (fun k => k = d) f s = (gt P.orders d).toNat := by
        intro f
        induction f with
        | zero => intro s a b; omega
        | succ f ih =>
          intro s a b
          rw [prd]
          by_cases e : s = d
          · subst e
            rw [if_pos rfl]
            have h0 : prd P (fun k => k = s) f (s + 1) = prd P (fun _ => False) f (s + 1) := prd_congr _ _ (fun k _ _ => ⟨fun e => by omega, fun hh => hh.elim⟩)
            have h1 : ∀ f t, prd P (fun _ => False) f t = 1 := by
              intro f
              induction f with
              | zero => intro t; rfl
              | succ f ih => intro t; rw [prd, if_neg (fun hh => hh), ih]
            rw [h0, h1, Nat.mul_one]
          · rw [if_neg e, Nat.one_mul]
            exact ih (s + 1) (by omega) (by omega)
      rw [key _ _ (Nat.zero_le _) (by omega)]
      exact Nat.dvd_refl _
    have hcop : Nat.Coprime (gt P.orders d).toNat (prd P R P.orders.length 0) := prd_cop1 G (by rw [h2]; exact h3) _ _ (Nat.zero_add _) (fun k hk hRk e => hn ((hR k d hk hdn (by
      obtain ⟨r, g1, g2, _⟩ := ordN G hk
      omega)).1 hRk))
    exact cop_ndvd (G := G) hdn hcop (Nat.dvd_trans hq h)
  · intro h
    have hm := prd_mul (P := P) (Q := Q) (R := fun k => R k ∧ ¬ Q k) P.orders.length 0 (fun k _ _ hk hh => hh.2 hk)
    have hc : prd P (fun k => Q k ∨ (R k ∧ ¬ Q k)) P.orders.length 0 = prd P R P.orders.length 0 := prd_congr _ _ (fun k _ _ => ⟨fun hh => hh.elim (h k) (fun hh => hh.1), fun hh => by
      by_cases e : Q k
      · exact .inl e
      · exact .inr ⟨hh, e⟩⟩)
    rw [← hc, ← hm]
    exact Nat.dvd_mul_right _ _

theorem prd_one (G : Grp P) {Q : Nat → Prop} : ∀ f d, d + f = P.orders.length → prd P Q f d = 1 → ∀ k, d ≤ k → k < P.orders.length → ¬ Q k
  | 0, d, hd, _, k, a, b => by omega
  | f + 1, d, hd, h, k, a, b => by
    obtain ⟨q, h1, h2, h3⟩ := ordN G (show d < P.orders.length by omega)
    rw [prd] at h
    have hX := prd_pos G Q f (d + 1) (by omega)
    by_cases hq : Q d
    · rw [if_pos hq, h2] at h
      have := Nat.mul_le_mul_left q hX
      omega
    · rw [if_neg hq, Nat.one_mul] at h
      by_cases e : k = d
      · subst e; exact hq
      · exact prd_one G f (d + 1) (by omega) h k (by omega) b

theorem mem_same (pr : List Int) (j k : Nat) (h : gt P.orders j = gt P.orders k) : gt P.orders j ∈ pr ↔ gt P.orders k ∈ pr := by rw [h]

/-- a Hall subgroup -/
def HallP (P : Pr) (pr : List Int) (u : List (List Int)) : Prop := SubB P u ∧ prodU P u u.length = hallO P pr

theorem pi_iff (G : Grp P) {u : List (List Int)} (hu : SubB P u) (pr : List Int) : prodU P u u.length ∣ hallO P pr ↔ ∀ d, pvU G u d → gt P.orders d ∈ pr := by
  rw [ordU G hu, hallO_eq G, Int.natCast_dvd_natCast]
  exact prd_dvd_iff G (fun d hd => hd.1) (fun j k _ _ e => mem_same pr j k e)
theorem hall_iff (G : Grp P) {u : List (List Int)} (hu : SubB P u) (pr : List Int) : prodU P u u.length = hallO P pr ↔ ∀ d, pvU G u d ↔ (d < P.orders.length ∧ gt P.orders d ∈ pr) := by
  constructor
  · intro h d
    have h1 := (pi_iff G hu pr).1 (by rw [h]; exact Int.dvd_refl _)
    refine ⟨fun hd => ⟨hd.1, h1 d hd⟩, fun hd => Classical.byContradiction fun hn => ?_⟩
    rw [ordU G hu, hallO_eq G, Int.natCast_inj] at h
    have hm := prd_mul (P := P) (Q := pvU G u) (R := fun k => gt P.orders k ∈ pr ∧ ¬ pvU G u k) P.orders.length 0 (fun k _ _ hk hh => hh.2 hk)
    have hc : prd P (fun k => pvU G u k ∨ (gt P.orders k ∈ pr ∧ ¬ pvU G u k)) P.orders.length 0 = prd P (fun d => gt P.orders d ∈ pr) P.orders.length 0 := prd_congr _ _ (fun k _ _ => ⟨fun hh => hh.elim (h1 k) (fun hh => hh.1), fun hh => by
      by_cases e : pvU G u k
      · exact .inl e
      · exact .inr ⟨hh, e⟩⟩)
    rw [hc, ← h] at hm
    have h2 : prd P (fun k => gt P.orders k ∈ pr ∧ ¬ pvU G u k) P.orders.length 0 = 1 := Nat.eq_of_mul_eq_mul_left (prd_pos G (pvU G u) _ _ (Nat.zero_add _)) (by rw [hm, Nat.mul_one])
    exact prd_one G _ _ (Nat.zero_add _) h2 d (Nat.zero_le _) hd.1 ⟨hd.2, hn⟩
  · intro h
    rw [ordU G hu, hallO_eq G, Int.natCast_inj]
    exact prd_congr _ _ (fun k _ hk => (h k).trans ⟨fun hh => hh.2, fun hh => ⟨by omega, hh⟩⟩)

/-- a Hall subgroup that holds a given subgroup for the primes -/
theorem hall_over (G : Grp P) (pr : List Int) {u : List (List Int)} (hu : SubB P u) (hd : prodU P u u.length ∣ hallO P pr) : ∃ A : El G → Prop, SG A ∧ (∀ d, pv A d ↔ (d < P.orders.length ∧ gt P.orders d ∈ pr)) ∧ ∀ x, toE G (gP P u) x → A x := by
  obtain ⟨A, SA, hA⟩ := hall_ex G (fun q => q ∈ pr)
  have S := toE_sg (G := G) (G.subB hu)
  obtain ⟨g, hg⟩ := hall_dom (π := fun q => q ∈ pr) SA S hA ((pi_iff G hu pr).1 hd)
  refine ⟨fun x => A (g⁻¹ * (x * g)), pull_sg SA g, fun d => ?_, hg⟩
  -- a conjugate has the same depths: its order is the same
  have e : cd (fun x => A (g⁻¹ * (x * g))) = cd A := by
    have h1 : ((elsIn A).map (fun x => g * (x * g⁻¹))).Nodup := by
      refine List.nodup_iff_pairwise_ne.2 ?_
      rw [List.pairwise_map]
      refine (List.nodup_iff_pairwise_ne.1 (elsIn_nodup _)).imp (fun {a b} hab e => hab ?_)
      have := congrArg (fun z => g⁻¹ * (z * g)) e
      simpa only [El.ass, El.ilc, El.il, El.or] using this
    rw [cd_list h1 (H := fun x => A (g⁻¹ * (x * g))) (fun x => ?_), List.length_map]
    · rfl
    · rw [List.mem_map]
      constructor
      · rintro ⟨y, hy, rfl⟩
        have e2 : g⁻¹ * (g * (y * g⁻¹) * g) = y := by simp only [El.ass, El.ilc, El.il, El.or]
        show A (g⁻¹ * (g * (y * g⁻¹) * g))
        rw [e2]; exact elsIn_mem.1 hy
      · intro hx
        exact ⟨_, elsIn_mem.2 hx, by simp only [El.ass, El.irc, El.ir, El.or]⟩
  have hex : ∀ x, A (g⁻¹ * (x * g)) → ep x (aP P (fun q => q ∈ pr)) = 1 := fun x hx => by
    have h1 := exp_of_pv (π := fun q => q ∈ pr) SA (fun d hd => ((hA d).1 hd).2) hx
    rw [ep_conj] at h1
    have h2 := congrArg (fun z => g * (z * g⁻¹)) h1
    simpa only [El.ass, El.irc, El.ir, El.or, El.ol] using h2
  have hpi : ∀ d, pv (fun x => A (g⁻¹ * (x * g))) d → gt P.orders d ∈ pr := fun d hd => Classical.byContradiction fun hn =>
    cop_ndvd (G := G) hd.1 (a_ndvd G (π := fun q => q ∈ pr) hd.1 hn) (pv_of_exp (N := fun x => x = 1) hex hd pv_one)
  refine ⟨fun hd => ⟨hd.1, hpi d hd⟩, fun hd => ?_⟩
  have hsub := (ofE_sub (pull_sg SA g))
  have hB := G.subB_cseq hsub
  have hgp : toE G (gP P (cseq P (ofE (fun x => A (g⁻¹ * (x * g)))))) = fun x => A (g⁻¹ * (x * g)) := by
    rw [show gP P (cseq P (ofE (fun x => A (g⁻¹ * (x * g))))) = ofE (fun x => A (g⁻¹ * (x * g))) from G.genP_cseq hsub, toE_ofE]
  have hord : prodU P (cseq P (ofE (fun x => A (g⁻¹ * (x * g))))) (cseq P (ofE (fun x => A (g⁻¹ * (x * g))))).length = hallO P pr := by
    rw [order_cd (G := G) hsub, toE_ofE, e, cd_eq SA, hallO_eq G, Int.natCast_inj]
    exact prd_congr _ _ (fun k _ hk => (hA k).trans ⟨fun hh => hh.2, fun hh => ⟨by omega, hh⟩⟩)
  have := ((hall_iff G hB pr).1 hord d).2 hd
  unfold pvU at this
  rwa [hgp] at this

/-- below a Hall subgroup there is a next step -/
theorem hall_step (G : Grp P) (pr : List Int) {u : List (List Int)} (hu : SubB P u) (hd : prodU P u u.length ∣ hallO P pr) (hne : prodU P u u.length ≠ hallO P pr) :
    ∃ t : Nat, t < (ordP P).toNat ∧ ¬ gP P u (elAt P (t : Int)) ∧ prodU P (cseq P (extP P (gP P u) (elAt P (t : Int)))) (cseq P (extP P (gP P u) (elAt P (t : Int)))).length ∣ hallO P pr ∧
      ∀ H, Sub P H → H (elAt P (t : Int)) → (∀ K, Sub P K → K (elAt P (t : Int)) → ∀ x, H x → K x) → ∀ d, pv (toE G H) d → gt P.orders d ∈ pr := by
  obtain ⟨A, SA, hA, hle⟩ := hall_over G pr hu hd
  have hnle : ¬ ∀ x, A x → toE G (gP P u) x := fun h => hne ((hall_iff G hu pr).2 (fun d => by
    have e : A = toE G (gP P u) := funext fun x => propext ⟨h x, hle x⟩
    show pv (toE G (gP P u)) d ↔ _
    rw [← e]; exact hA d))
  obtain ⟨x, hx⟩ := Classical.not_forall.1 hnle
  obtain ⟨hxA, hxu⟩ := Classical.not_imp.1 hx
  obtain ⟨h1, h2⟩ := G.num_lt x.2
  refine ⟨(num P x.1).toNat, h1, ?_⟩
  rw [h2]
  have hAs := ofE_sub SA
  have hxA' : ofE A x.1 := ⟨x.2, hxA⟩
  refine ⟨hxu, ?_, fun H SH _ hmin d hd => ?_⟩
  · have hE : Sub P (extP P (gP P u) x.1) := G.genP_sub (fun y hy => hy.elim (fun h => (G.subB hu).vec y h) (fun h => h ▸ x.2))
    have hEB := G.subB_cseq hE
    rw [pi_iff G hEB]
    intro d hd
    have h3 : ∀ y, toE G (gP P (cseq P (extP P (gP P u) x.1))) y → A y := fun y hy => by
      have e : gP P (cseq P (extP P (gP P u) x.1)) = extP P (gP P u) x.1 := G.genP_cseq hE
      have h4 : extP P (gP P u) x.1 y.1 := by rw [← e]; exact hy
      obtain ⟨_, h5⟩ := genP_le hAs (fun z hz => hz.elim (fun hz => ⟨(G.subB hu).vec z hz, hle ⟨z, (G.subB hu).vec z hz⟩ hz⟩) (fun e => by rw [e]; exact hxA')) h4
      exact h5
    exact ((hA d).1 (pv_mono h3 hd)).2
  · have h3 : ∀ y, toE G H y → A y := fun y hy => (hmin _ hAs hxA' y.1 hy).2
    exact ((hA d).1 (pv_mono h3 hd)).2

/-- Hall subgroups are conjugate -/
theorem hall_conj (G : Grp P) {pr : List Int} {u v : List (List Int)} (hu : HallP P pr u) (hv : HallP P pr v) : ∃ x, Vec P.orders x ∧ v = cjU P u x := by
  have SU := toE_sg (G := G) (G.subB hu.1)
  have SV := toE_sg (G := G) (G.subB hv.1)
  have iU := (hall_iff G hu.1 pr).1 hu.2
  have iV := (hall_iff G hv.1 pr).1 hv.2
  obtain ⟨g, hg⟩ := hall_dom (π := fun q => q ∈ pr) SV SU iV (fun d hd => ((iU d).1 hd).2)
  refine ⟨g.1, g.2, ?_⟩
  have hc : ∀ y, cjS P (gP P u) g.1 y → gP P v y := by
    rintro y ⟨z, hz, rfl⟩
    exact hg ⟨z, (G.subB hu.1).vec z hz⟩ hz
  have h1 := G.order_le (G.cj_sub (G.subB hu.1) g.2) (G.subB hv.1) hc
  have e1 : cseq P (cjS P (gP P u) g.1) = cjU P u g.1 := (G.cjU_eq hu.1 g.2).symm
  have e2 : cseq P (gP P v) = v := hv.1.2.symm
  -- equal orders: conjugation keeps the number of elements
  have hB := G.cjU_subB hu.1 g.2
  have hn : prodU P (cjU P u g.1) (cjU P u g.1).length = prodU P u u.length := by
    have h2 := order_cd (G := G) (G.cj_sub (G.subB hu.1) g.2)
    rw [e1] at h2
    have h3 := order_cd (G := G) (G.subB hu.1)
    have e3 : cseq P (gP P u) = u := hu.1.2.symm
    rw [h2]
    rw [show genP P (fun z => z ∈ u) = gP P u from rfl, e3] at h3
    rw [h3]
    have h4 : ((elsIn (toE G (gP P u))).map (fun x => g⁻¹ * (x * g))).Nodup := by
      refine List.nodup_iff_pairwise_ne.2 ?_
      rw [List.pairwise_map]
      refine (List.nodup_iff_pairwise_ne.1 (elsIn_nodup _)).imp (fun {a b} hab e => hab ?_)
      have := congrArg (fun z => g * (z * g⁻¹)) e
      simpa only [El.ass, El.irc, El.ir, El.or] using this
    rw [cd_list h4 (H := toE G (cjS P (gP P u) g.1)) (fun x => ?_), List.length_map]
    · rfl
    · rw [List.mem_map]
      constructor
      · rintro ⟨y, hy, rfl⟩
        exact ⟨y.1, elsIn_mem.1 hy, rfl⟩
      · rintro ⟨z, hz, e⟩
        exact ⟨⟨z, (G.subB hu.1).vec z hz⟩, elsIn_mem.2 hz, Subtype.ext e.symm⟩
  have h5 : ∀ x, gP P v x → cjS P (gP P u) g.1 x := h1.2 (by
    rw [e1]
    have : prodU P (cseq P (genP P fun x => x ∈ v)) (cseq P (genP P fun x => x ∈ v)).length = prodU P v v.length := by
      show prodU P (cseq P (gP P v)) (cseq P (gP P v)).length = _
      rw [e2]
    rw [this, hn, hu.2, hv.2])
  have e : gP P v = cjS P (gP P u) g.1 := funext fun x => propext ⟨h5 x, hc x⟩
  rw [← e2, e, e1]

theorem cjU_order (G : Grp P) {u : List (List Int)} (hu : SubB P u) {g : List Int} (hg : Vec P.orders g) : prodU P (cjU P u g) (cjU P u g).length = prodU P u u.length := by
  have h0 := G.order_elems (G.cj_sub (G.subB hu) hg)
  have h1 := G.order_elems (G.subB hu)
  have e1 : cseq P (cjS P (genP P fun x => x ∈ u) g) = cjU P u g := (G.cjU_eq hu hg).symm
  have e2 : cseq P (genP P fun x => x ∈ u) = u := hu.2.symm
  rw [e1] at h0
  rw [e2] at h1
  rw [h0, h1]
  have h2 : ((elemsIn P (genP P fun x => x ∈ u)).map (fun y => rConj P y g)).Nodup := by
    refine List.nodup_iff_pairwise_ne.2 ?_
    rw [List.pairwise_map]
    refine (List.nodup_iff_pairwise_ne.1 (elemsIn_nodup G.v _)).imp_of_mem (fun {a b} ha hb hab e => hab ?_)
    have va := (G.subB hu).vec a ((elemsIn_mem G.v (G.subB hu).vec a).1 ha)
    have vb := (G.subB hu).vec b ((elemsIn_mem G.v (G.subB hu).vec b).1 hb)
    rw [← G.conj_back va hg, ← G.conj_back vb hg, e]
  have h3 := (List.perm_ext_iff_of_nodup (elemsIn_nodup G.v (cjS P (genP P fun x => x ∈ u) g)) h2).2 (fun x => by
    rw [elemsIn_mem G.v (G.cj_sub (G.subB hu) hg).vec, List.mem_map]
    constructor
    · rintro ⟨z, hz, rfl⟩
      exact ⟨z, (elemsIn_mem G.v (G.subB hu).vec z).2 hz, rfl⟩
    · rintro ⟨z, hz, rfl⟩
      exact ⟨z, (elemsIn_mem G.v (G.subB hu).vec z).1 hz, rfl⟩)
  rw [h3.length_eq, List.length_map]

theorem hall_cjU (G : Grp P) {pr : List Int} {u : List (List Int)} (hu : HallP P pr u) {x : List Int} (hx : Vec P.orders x) : HallP P pr (cjU P u x) :=
  ⟨G.cjU_subB hu.1 hx, by rw [cjU_order G hu.1 hx]; exact hu.2⟩

/-- the ascending list of all Hall subgroups -/
def HallL (P : Pr) (pr : List Int) (L : List (List (List Int))) : Prop := L.Pairwise (subLt P) ∧ ∀ u, u ∈ L ↔ HallP P pr u
theorem HallL.one {pr : List Int} {L M : List (List (List Int))} (h : HallL P pr L) (k : HallL P pr M) : L = M :=
  sorted_one (fun _ => subLt_irrefl) (fun _ _ _ => subLt_trans) h.1 k.1 (fun u => (h.2 u).trans (k.2 u).symm)
/-- the conjugates of one are all -/
theorem hall_all (G : Grp P) {pr : List Int} {u : List (List Int)} (hu : HallP P pr u) (v : List (List Int)) : HallP P pr v ↔ ∃ j, j < (ordP P).toNat ∧ v = cjU P u (elAt P (j : Int)) := by
  constructor
  · intro hv
    obtain ⟨x, hx, e⟩ := hall_conj G hu hv
    obtain ⟨h1, h2⟩ := G.num_lt hx
    exact ⟨_, h1, by rw [h2]; exact e⟩
  · rintro ⟨j, hj, rfl⟩
    exact hall_cjU G hu (G.elAtV hj)
end

end Go.Proofs.YtdklekdpdbjfiaaGreat

/- The reference's power with any exponent: spec.l10Pow. -/
namespace Go.Proofs.YtdklekdpdbjfiaaGreat
open Go.RowKit

theorem Grp.rRep_pw {P : Pr} (G : Grp P) {X : List Int} (hX : Vec P.orders X) (k : Nat) : rRep (rAt P P.orders.length 0) (zeros P.orders.length) X k = pw P X k :=
  G.lvl.rRep_eq (T_zero.2 hX) k

set_option maxHeartbeats 2000000 in
theorem l10Pow_ok (P : Pr) (G : Grp P) (w : World) (pv x : Value) (X : List Int) (k : Int) (Sp Sx : Nat → Prop) (hp : PresV Sp w pv P) (hx : Ints Sx w x X) (hX : Vec P.orders X) (hk : -1000000000 ≤ k ∧ k ≤ 1000000000) :
    Calls Tryz.prog 113 #[pv, x, .int .i64 k] w (Ret w fun w' v => Own w.heap.size w' v (pwZ P X k)) := by
  have hP := G.v
  have hn6 := hP.n6
  obtain ⟨vo, vp, vc, rfl, h3⟩ := hp
  have hBx := PresP.box h3 31
  have hg0 : Ext w (w.alloc (.cells #[vo, vp, vc] 31)) := World.grownBy_alloc _ _ _
  have hx0 := hx.ext hg0
  have hs0 : (w.alloc (.cells #[vo, vp, vc] 31)).heap.size = w.heap.size + 1 := by simp
  have HS := Lib.hid hs0; clear hs0 hx
  have hXl : X.length = P.orders.length := hX.1
  have HX := Lib.hid (And.intro hX hXl); clear hX hXl
  by_cases hneg : k < 0
  · have e0 : pwZ P X k = pw P (rInv P X) (-k).toNat := by unfold pwZ; rw [if_pos hneg]
    have hiV := G.invV HX.out.1
    have hil : (rInv P X).length ≤ 6 := by rw [hiV.1]; omega
    have HE := Lib.hid (And.intro e0 hiV); clear e0 hiV
    have hwr : IntKind.i64.wrap (-k) = -k := IntWalk.i64_in _ (by omega)
    go_enter Tryz.func113, Tryz.ntmps113
    go_wp2
    generalize hw0 : w.alloc (.cells #[vo, vp, vc] 31) = w0 at *
    clear hw0
    obtain ⟨vo6, vp6, vc6, _, _, hc0, hc1, hc2, h36⟩ := hBx.at
    have e1 : ∀ w', Ext w0 w' → w'.cell? ⟨w.heap.size, 0, none⟩ = some vo6 := fun w' h => h.cell hc0 (by simp)
    have e2 : ∀ w', Ext w0 w' → w'.cell? ⟨w.heap.size, 1, none⟩ = some vp6 := fun w' h => h.cell (by simpa using hc1) (by simp)
    have e3 : ∀ w', Ext w0 w' → w'.cell? ⟨w.heap.size, 2, none⟩ = some vc6 := fun w' h => h.cell (by simpa using hc2) (by simp)
    clear hc0 hc1 hc2
    go_region_held3 (fun w' => Ext w0 w') (first | exact grown_drew _ _ | assumption)
      (first
        | (go_at_call 178; refine Calls.mono (Calls.rel (w0 := w0) (by assumption) (l10Inv_ok P hP _ _ _ _ Any Any ⟨_, _, _, rfl, Pres3.ext h36 (by assumption)⟩ (Ints.sub (Ints.ext hx0 (by assumption)) (fun _ _ _ => trivial)) HX.out.1)) ?_; rintro eA wA ⟨vA, rfl, hgA, hsA, hOA⟩; have hOA2 := hOA.ints (by omega))
        | (go_at_call 177; refine Calls.mono (Calls.rel (w0 := w0) (by assumption) (l08Repeat_ok P hP _ _ _ 0 P.orders.length (by omega) _ (-k) Any Any ⟨_, _, _, rfl, Pres3.ext h36 (by assumption)⟩ hOA2 HE.out.2 (by omega) (by omega))) ?_; rintro eB wB ⟨vB, rfl, hgB, hsB, hOB⟩))
    clear e1 e2 e3
    rw [G.rRep_pw HE.out.2, ← HE.out.1] at hOB
    go_wp2
    go_ret
    exact ⟨_, rfl, grown_trans hg0 hgB, hOB.weak (by have := HS.out; omega)⟩
  · have e0 : pwZ P X k = pw P X k.toNat := by unfold pwZ; rw [if_neg hneg]
    have HE := Lib.hid e0; clear e0
    obtain ⟨vo6, vp6, vc6, _, _, hc0, hc1, hc2, h36⟩ := hBx.at
    go_enter Tryz.func113, Tryz.ntmps113
    go_wp2_with fail
    refine Calls.mono (l08Repeat_ok P hP _ _ _ 0 P.orders.length (by omega) X k Any Sx ⟨_, _, _, rfl, h36⟩ hx0 HX.out.1 (by omega) (by omega)) ?_
    rintro eB wB ⟨vB, rfl, hgB, hOB⟩
    rw [G.rRep_pw HX.out.1, ← HE.out] at hOB
    go_wp2
    go_ret
    exact ⟨_, rfl, grown_trans hg0 hgB, hOB.weak (by have := HS.out; omega)⟩

end Go.Proofs.YtdklekdpdbjfiaaGreat

/- Rows of bools of the call's own; a region that ends in a store. -/
namespace Go.Proofs.YtdklekdpdbjfiaaGreat
open Go.RowKit

/-! ### a row of bools of the call's own -/
abbrev BOwn (base : Nat) (w : World) (v : Value) (l : List Bool) : Prop := w.ownsRow base 4 1 v l.length (l.map Value.bool)
theorem und_bools : Tryz.prog.underlying 177 = some (.slice 4) := by kernel_rfl
theorem Tryz.infoBool : (Tryz.prog.info? 4).map (fun i => (i.zero, i.size, i.bytes)) = some (some (.bool false), 1, 1) := by kernel_rfl

theorem wp_make_bools {ops : Array Oper} {rest : List Oper} {o : Oper} {a : Act} {Q : Exit → Act → World → Prop} {w : World} (hgd : o.guard = none) (l c : Operand)
    (ho : o.op = Op.makeSlice 177 l c) (base n H : Nat) (hH : w.heap.size = H) (L : Int) (hl : a.eval l = .int .i64 L) (hc : a.eval c = .int .i64 L) (hL : L = n) (hn : n ≤ 2147483648) (hbase : base ≤ H)
    (h : ∀ w', BOwn base w' (.slice (some ⟨H, 0, none⟩) n n) (List.replicate n false) → Ext w w' → H < w'.heap.size → wpList Tryz.prog ops Q rest (a.put o.dst (.slice (some ⟨H, 0, none⟩) n n)) w') :
    wpList Tryz.prog ops Q (o :: rest) a w := by
  subst hH
  obtain ⟨i0, hi, hz0, hz1, hz2⟩ := info_parts Tryz.infoBool
  refine wpList_make_full w hgd l c 177 ho base 4 i0 (.bool false) 1 und_bools hi hz0 hz1 .i64 .i64 L L n hl hc hL hL (by rw [hz2]; omega) (by unfold maxLen; omega) hbase ?_
  intro w' h1 h2
  refine h w' ?_ h2 (h1.lt w.heap.size rfl).2
  have e : (madeCells (Value.cells (.bool false)) (n * 1)).toList = (List.replicate n false).map Value.bool := by
    rw [show Value.cells (.bool false) = #[.bool false] from rfl, toList_madeCells_one]; simp
  rw [e] at h1
  show World.ownsRow _ _ _ _ _ _ _
  rw [List.length_replicate]; exact h1

theorem BOwn.cell {base g cap n : Nat} {w : World} {l : List Bool} (h : BOwn base w (.slice (some ⟨g, 0, none⟩) n cap) l) (j : Nat) (hj : j < l.length) : w.cell? ⟨g, j, none⟩ = some (.bool (gt l j)) := by
  have hn : n = l.length := by
    obtain ⟨_, ⟨h, _⟩ | ⟨_, _, _, h, _⟩⟩ := h <;> cases h; rfl
  subst hn
  have := World.ownsRow.cellAt h j (by omega)
  rw [this]; simp [gt, hj]

theorem BOwn.frozen {base g cap n : Nat} {w : World} {l : List Bool} (h : BOwn base w (.slice (some ⟨g, 0, none⟩) n cap) l) (j : Nat) : w.frozen? ⟨g, j, none⟩ = false := by
  have hn : n = l.length := by
    obtain ⟨_, ⟨h, _⟩ | ⟨_, _, _, h, _⟩⟩ := h <;> cases h; rfl
  subst hn
  exact World.ownsRow.frozenAt h j

theorem BOwn.store {base g cap n : Nat} {w : World} {l : List Bool} (h : BOwn base w (.slice (some ⟨g, 0, none⟩) n cap) l) (j : Nat) (x : Bool) :
    BOwn base (w.setCell ⟨g, j, none⟩ (.bool x)) (.slice (some ⟨g, 0, none⟩) n cap) (l.set j x) ∧ w.grownBy (w.setCell ⟨g, j, none⟩ (.bool x)) (some g) := by
  have hn : n = l.length := by
    obtain ⟨_, ⟨h, _⟩ | ⟨_, _, _, h, _⟩⟩ := h <;> cases h; rfl
  subst hn
  obtain ⟨h1, h2⟩ := World.ownsRow.stored h j (.bool x)
  refine ⟨?_, h2⟩
  show World.ownsRow _ _ _ _ _ _ _
  rw [List.length_set, List.map_set]; exact h1

theorem BOwn.ext0 {base : Nat} {w w' : World} {v : Value} {l : List Bool} (h : BOwn base w v l) (hg : Ext w w') : BOwn base w' v l :=
  h.kept hg (by cases hv : v.ownBlock <;> simp)

theorem BOwn.form {base : Nat} {w : World} {v : Value} {l : List Bool} (h : BOwn base w v l) (hl : 0 < l.length) : ∃ g cap, v = .slice (some ⟨g, 0, none⟩) l.length cap ∧ base ≤ g ∧ g < w.heap.size := by
  have hlt := h.lt
  obtain ⟨_, h | ⟨g, cap, cur, hv, hg, _⟩⟩ := h
  · omega
  · exact ⟨g, cap, hv, hg, (hlt g (by rw [hv]; rfl)).2⟩

theorem BOwn.keep {base g n cap r : Nat} {w w' : World} {l : List Bool} (h : BOwn base w (.slice (some ⟨g, 0, none⟩) n cap) l) (hg : w.grownBy w' (some r)) (hne : g ≠ r) : BOwn base w' (.slice (some ⟨g, 0, none⟩) n cap) l :=
  h.kept hg (.inr (fun e => hne (by cases e; rfl)))

theorem BOwn.weak {base base' : Nat} {w : World} {v : Value} {l : List Bool} (h : BOwn base w v l) (hb : base' ≤ base) : BOwn base' w v l := by
  obtain ⟨h1, h2⟩ := h
  refine ⟨h1, ?_⟩
  rcases h2 with h | ⟨g, cap, cur, hv, hg, r⟩
  · exact .inl h
  · exact .inr ⟨g, cap, cur, hv, Nat.le_trans hb hg, r⟩

/-- w' is reached from w by growth and at most one store into block g behind it -/
def Near (w : World) (g : Nat) (w' : World) : Prop := ∃ w1, Ext w w1 ∧ (w' = w1 ∨ ∃ j x, w' = w1.setCell ⟨g, j, none⟩ x)
theorem Near.of {w w' : World} {g : Nat} (h : Ext w w') : Near w g w' := ⟨w', h, .inl rfl⟩
theorem Near.store {w w' : World} {g j : Nat} {x : Value} (h : Ext w w') : Near w g (w'.setCell ⟨g, j, none⟩ x) := ⟨w', h, .inr ⟨j, x, rfl⟩⟩
theorem Near.cell {w w' : World} {g : Nat} (h : Near w g w') {a : Addr} {v : Value} (hc : w.cell? a = some v) (hne : a.block ≠ g) : w'.cell? a = some v := by
  obtain ⟨w1, h1, rfl | ⟨j, x, rfl⟩⟩ := h
  · exact h1.cell hc (by simp)
  · rw [World.cell?_setCell_far _ _ _ _ (by simpa using Ne.symm hne)]
    exact h1.cell hc (by simp)

end Go.Proofs.YtdklekdpdbjfiaaGreat

/- The reference's tables by depths: spec.l02Lead, l12Depth, l12Table; how a table reads. -/
namespace Go.Proofs.YtdklekdpdbjfiaaGreat
open Go.RowKit

set_option maxHeartbeats 400000 in
theorem l02Lead_ok (v : Value) (X : List Int) (w : World) (S : Nat → Prop) (h : Ints S w v X) :
    Calls Tryz.prog 175 #[v] w fun e w' => e = .returned (.int .i64 (dep X)) ∧ w = w' := by
  obtain ⟨a, cap, rfl, _, _⟩ := h.shape
  go_enter Tryz.func175, Tryz.ntmps175
  go_wp2
  go_loop [3] (fun i => ∃ k : Nat, i = .int .i64 k ∧ k ≤ X.length ∧ ∀ j, j < k → gt X j = 0) (fun i => X.length - (intOf i).toNat)
  case atStart => exact ⟨0, rfl, by omega, fun j hj => by omega⟩
  case round =>
    obtain ⟨k, rfl, hk, hz⟩ := hrel
    have HZ := Lib.hid hz; clear hz
    by_cases hlt : k < X.length
    · obtain ⟨b, off, rfl, _, _, hc⟩ := Ints.at h k hlt
      by_cases hx : gt X k = 0
      · have hb : (gt X k != 0) = false := by simp [hx]
        have HX := Lib.hid hx; clear hx
        go_wp2
        go_round
        case rel => exact ⟨k + 1, by go_num, by omega, fun j hj => by
          rcases Nat.lt_succ_iff_lt_or_eq.1 hj with h1 | h1
          · exact HZ.out j h1
          · rw [h1]; exact HX.out⟩
        case measure => simp [intOf]; omega
      · have hb : (gt X k != 0) = true := by simp [hx]
        have he : dep X = k := dep_eq hlt HZ.out hx
        have HE := Lib.hid he; clear he hx
        go_wp2
        go_ret
        exact ⟨by rw [HE.out]; rfl, rfl⟩
    · have hke : k = X.length := by omega
      have he : dep X = X.length := dep_all (fun j hj => HZ.out j (by omega))
      have HE := Lib.hid he; clear he
      go_wp2
      go_ret
      exact ⟨by rw [HE.out]; rfl, rfl⟩

theorem l12Depth_ok (v : Value) (X : List Int) (w : World) (S : Nat → Prop) (h : Ints S w v X) :
    Calls Tryz.prog 111 #[v] w (Ret w fun _ r => r = .int .i64 (dep X)) := by
  have hcon := l02Lead_ok v X w S h
  obtain ⟨a, cap, rfl, _, _⟩ := h.shape
  go_enter Tryz.func111, Tryz.ntmps111
  go_wp2_with fail
  refine Calls.mono hcon ?_
  rintro e1 w1 ⟨rfl, rfl⟩
  clear hcon
  go_wp2
  go_ret
  exact ⟨_, rfl, Ext.refl _, rfl⟩

/-- a table reads as rows, nothing as a row without elements -/
theorem TabAt.rows {B gb n : Nat} {bad : Nat → Prop} {w : World} {b : List (List Int)} (h : TabAt B bad w gb n b) (hn : n ≤ 1000000) : Rows2 (fun k => k = gb ∨ (k ≠ gb ∧ ¬ bad k)) w (.slice (some ⟨gb, 0, none⟩) n n) b := by
  have hl := h.len
  have hlt := h.lt
  refine ⟨_, _, by rw [hl], ⟨by omega, by omega, fun h => by cases h⟩, fun i hi => ?_⟩
  obtain ⟨_, hc⟩ := h.at i (by omega)
  rcases hc with ⟨h0, hc⟩ | ⟨_, a, cap, hc, hI⟩
  · refine ⟨gb, 0, _, rfl, .inl rfl, hlt.2, by rw [Nat.zero_add]; exact hc, ?_⟩
    rw [h0]
    exact ⟨none, 0, rfl, ⟨by simp, by simp, fun _ => rfl⟩, fun j hj => by simp at hj⟩
  · exact ⟨gb, 0, _, rfl, .inl rfl, hlt.2, by rw [Nat.zero_add]; exact hc, Ints.sub hI (fun k hk _ => .inr hk)⟩

set_option maxRecDepth 100000 in
set_option maxHeartbeats 1000000 in
theorem l12Table_ok (P : Pr) (hP : Valid P) (w : World) (pv uv : Value) (U : List (List Int)) (Sp Su : Nat → Prop) (hpv : PresV Sp w pv P) (hu : Rows2 Su w uv U) (hU : SeqOk P U) (hl : U.length ≤ 6) :
    Calls Tryz.prog 245 #[pv, uv] w (Ret w fun w' v => Rows2 Any w' v (tabTo U P.orders.length U.length)) := by
  have hn6 := hP.n6
  obtain ⟨vo, vp, vc, rfl, h3⟩ := hpv
  have hp0 := PresP.box h3 31
  have hg0 : Ext w (w.alloc (.cells #[vo, vp, vc] 31)) := World.grownBy_alloc _ _ _
  obtain ⟨ao, capo, hco, hoi⟩ := hp0.ordAt
  obtain ⟨au, capu, rfl, _, _⟩ := Sl.shape hu
  have HU := Lib.hid hU; clear hU
  go_enter Tryz.func245, Tryz.ntmps245
  go_wp2_with (first | (at_make; refine wp_make_tab rfl _ _ rfl w.heap.size P.orders.length (w.heap.size + 1) (by simp) _ rfl rfl rfl (by omega) (by omega) ?_; intro w1 hT1 hg1 hlt1) | fail)
  have hgw := grown_trans hg0 hg1
  have hT := hT1 (fun _ => False)
  clear hT1 hco hoi hp0
  go_loopw [6] (fun iv wr => ∃ i : Nat, iv = .int .i64 i ∧ i ≤ U.length ∧ Ext w wr ∧ TabAt w.heap.size (fun _ => False) wr (w.heap.size + 1) P.orders.length (tabTo U P.orders.length i)) (fun iv _ => U.length - (intOf iv).toNat)
  case atStart => exact ⟨0, rfl, by omega, hgw, hT⟩
  case round =>
    clear hT hgw
    obtain ⟨i, rfl, hi, hg, hT⟩ := hrel
    by_cases hlt : i < U.length
    · have hlt' : (i : Int) < U.length := by omega
      obtain ⟨b, off, a2, cap2, rfl, _, hbl0, hc0, hr⟩ := Rows2.at hu i hlt
      have hc := hg.cell hc0 (by simp)
      clear hc0
      obtain ⟨hzV, hzd, hz1⟩ := HU.out.1 _ (gtMem hlt)
      have hst : tabTo U P.orders.length (i + 1) = (tabTo U P.orders.length i).set (dep (gt U i)) (gt U i) := rfl
      obtain ⟨z, hz⟩ : ∃ z, z = gt U i := ⟨_, rfl⟩
      rw [← hz] at hc hr hzV hzd hz1 hst
      clear hz
      obtain ⟨d, hd⟩ : ∃ d, d = dep z := ⟨_, rfl⟩
      rw [← hd] at hzd hst hz1
      have HD := Lib.hid hd; clear hd
      have hbl : b < w.heap.size := hbl0
      have hr3 := Ints.ext hr hg
      have hzne : z ≠ [] := fun e => by have := hzV.1; rw [e] at this; simp at this; omega
      have hrS : Ints (fun k => k ≠ w.heap.size + 1 ∧ ¬ False) wr (.slice a2 z.length cap2) z := by
        have h1 : Ints (fun k => k < w.heap.size) w (.slice a2 z.length cap2) z := Ints.sub hr (fun _ _ h => h)
        exact h1.mono (fun k hk hlt => ⟨⟨by omega, id⟩, Nat.lt_of_lt_of_le hlt hg.size, hg.block k hlt (by simp)⟩)
      obtain ⟨hfr, hcc⟩ := hT.at d hzd
      have HS := Lib.hid (And.intro hst (And.intro hzne (And.intro hzV hz1))); clear hst hzne hzV hz1
      have hdn : (d : Int) < P.orders.length := by omega
      obtain ⟨u0, hu0⟩ : ∃ u0, wr.cell? ⟨w.heap.size + 1, d, none⟩ = some u0 := by rcases hcc with ⟨_, h⟩ | ⟨_, _, _, h, _⟩ <;> exact ⟨_, h⟩
      clear hcc hbl0
      have e1 : ∀ w', Near wr (w.heap.size + 1) w' → w'.cell? ⟨b, off + i, none⟩ = some (.slice a2 z.length cap2) := fun w' h => h.cell hc (by simp; omega)
      go_wp2
      go_region_held3 (fun w' => Near wr (w.heap.size + 1) w') (first | exact Near.of (grown_drew _ _) | exact Near.of (by assumption) | exact Near.store (by assumption) | assumption)
        (first
          | (go_at_call 111; refine Calls.mono (Calls.rel (w0 := wr) (by first | exact grown_drew _ _ | assumption) (l12Depth_ok _ z _ Any (Ints.sub (Ints.ext hr3 (by first | exact grown_drew _ _ | assumption)) (fun _ _ _ => trivial)))) ?_; rintro eE wE ⟨vE, rfl, hgE, hsE, hvE⟩; rw [← HD.out] at hvE; subst hvE; have hcel2 := hgE.cell hu0 (by simp); have hfr2 := ((hT.ext hgE).at d hzd).1))
      clear e1
      obtain ⟨hT5, hg5⟩ := (hT.ext hgE).put d (u := .slice a2 z.length cap2) (y := z) (Ints.ext hrS hgE) HS.out.2.1
      have hgn : Ext w (wE.setCell ⟨w.heap.size + 1, d, none⟩ (.slice a2 z.length cap2)) := grown_own (grown_trans hg hgE) hg5 (fun j hj hlt => by cases hj; omega)
      clear hcel2 hfr2 hg5
      go_wp2
      go_roundw
      case rel => exact ⟨i + 1, by go_num, by omega, hgn, by rw [HS.out.1]; exact hT5⟩
      case measure => simp [intOf]; omega
    · have hie : i = U.length := by omega
      subst hie
      go_wp2
      go_ret
      exact ⟨_, rfl, hg, Rows2.sub (hT.rows (by omega)) (fun _ _ _ => trivial)⟩

end Go.Proofs.YtdklekdpdbjfiaaGreat

/- The reference's reduced sequence: spec.l12Full. -/
namespace Go.Proofs.YtdklekdpdbjfiaaGreat
open Go.RowKit

theorem seqOf_succ (n : Nat) (r : Nat → List Int) : seqOf (n + 1) r = seqOf n r ++ (if r n = [] then [] else [r n]) := by
  unfold seqOf
  rw [List.range_succ, List.filterMap_append]
  congr 1
  by_cases h : r n = [] <;> simp [h]

theorem seqOf_len (n : Nat) (r : Nat → List Int) : (seqOf n r).length ≤ n := by rw [sq_all]; exact sq_len _ _ _

/-- a list of shared rows reads as rows -/
theorem ShQ.rows {bad : Nat → Prop} {B : Nat} {w : World} {v : Value} {xs : List (List Int)} (h : ShQ bad B w v xs) : Rows2 Any w v xs := by
  obtain ⟨vs, hl, hq, hr⟩ := h
  rcases hq with ⟨rfl, rfl⟩ | ⟨g, off, cap, cur, rfl, hb, hg, hnc, hcm, hsz, hc⟩
  · have : xs = [] := List.eq_nil_of_length_eq_zero (by simpa using hl.symm)
    subst this
    exact ⟨none, 0, rfl, ⟨by simp, by simp, fun _ => rfl⟩, fun i hi => by simp at hi⟩
  · refine ⟨_, cap, by rw [hl], ⟨by omega, by unfold maxLen at hcm; omega, fun h => by cases h⟩, fun i hi => ⟨g, off, gt vs i, rfl, trivial, (Array.getElem?_eq_some_iff.1 hg).1, ?_, Ints.sub (hr i hi) (fun _ _ _ => trivial)⟩⟩
    simp only [World.cell?, hg, Option.isSome_none, Bool.false_eq_true, if_false]
    exact hc i (by omega)

theorem ShQ.lit (bad : Nat → Prop) (B : Nat) (w : World) (hB : B ≤ w.heap.size) : ShQ bad B (w.alloc (.cells #[] 22)) (.slice (some ⟨w.heap.size, 0, none⟩) 0 0) [] :=
  ⟨[], rfl, QOwn.of (World.ownsRow_lit w #[] 0 hB (by decide) rfl), fun i hi => by simp at hi⟩

theorem CanInv.congr {P : Pr} {H : List Int → Prop} {b r r' : Nat → List Int} {m : Nat} (h : CanInv P H b r m) (he : ∀ e, m ≤ e → e < P.orders.length → r' e = r e) : CanInv P H b r' m :=
  ⟨fun e h1 h2 => by rw [he e h1 h2]; exact h.nil e h1 h2, fun e h1 h2 h3 => by rw [he e h1 h2] at h3 ⊢; exact h.mem e h1 h2 h3,
    fun e e' h1 h2 h3 h4 h5 => by rw [he e h1 (by omega)] at h4 ⊢; rw [he e' (by omega) h3] at h5; exact h.red e e' h1 h2 h3 h4 h5⟩

set_option maxRecDepth 100000 in
set_option maxHeartbeats 4000000 in
theorem l12Full_ok (P : Pr) (G : Grp P) (w : World) (pv tv : Value) (b : List (List Int)) (H : List Int → Prop) (Sp Sb : Nat → Prop) (hpv : PresV Sp w pv P) (ht : Rows2 Sb w tv b) (hlb : b.length = P.orders.length) (hI : Ind P H (gt b)) :
    Calls Tryz.prog 116 #[pv, tv] w (Ret w fun w' v => Rows2 Any w' v (cseq P H)) := by
  have hP := G.v
  have hn6 := hP.n6
  obtain ⟨vo, vp, vc, rfl, h3⟩ := hpv
  have hp0 := PresP.box h3 31
  have hg0 : Ext w (w.alloc (.cells #[vo, vp, vc] 31)) := World.grownBy_alloc _ _ _
  have hs0 : (w.alloc (.cells #[vo, vp, vc] 31)).heap.size = w.heap.size + 1 := by simp
  obtain ⟨at_, capt, hvt, _, _⟩ := Sl.shape ht
  rw [hlb] at hvt
  subst hvt
  have HI := Lib.hid (And.intro hI hlb); clear hI hlb
  obtain ⟨vo6, vp6, vc6, _, _, hc0, hc1, hc2, h36⟩ := hp0.at
  simp only [Nat.zero_add] at hc1 hc2
  clear hp0
  have hwn : IntKind.i64.wrap ((P.orders.length : Int) - 1) = (P.orders.length : Int) - 1 := IntWalk.i64_in _ (by omega)
  go_enter Tryz.func116, Tryz.ntmps116
  go_wp2_with (first | (at_make; refine wp_make_tab rfl _ _ rfl w.heap.size P.orders.length (w.heap.size + 1) (by simp) _ rfl rfl rfl (by omega) (by omega) ?_; intro w1 hT1 hg1 hlt1) | fail)
  clear hwn
  have HS := Lib.hid hs0; clear hs0
  generalize hw0 : w.alloc (.cells #[vo, vp, vc] 31) = w0 at *
  clear hw0
  have hT := hT1 (fun _ => False)
  clear hT1
  go_loopw [6] (fun dv wr => ∃ (m : Nat) (dl : List (List Int)), dv = .int .i64 ((m : Int) - 1) ∧ m ≤ P.orders.length ∧ Ext w0 wr ∧ TabAt w.heap.size (fun _ => False) wr (w.heap.size + 1) P.orders.length dl ∧ Hid (CanInv P H (gt b) (gt dl) m ∧ ∀ e, e < m → gt dl e = [])) (fun dv _ => (intOf dv + 1).toNat)
  case atStart => exact ⟨P.orders.length, _, rfl, Nat.le_refl _, hg1, hT, Lib.hid ⟨⟨fun e h1 h2 => by omega, fun e h1 h2 => by omega, fun e e' h1 h2 h3 => by omega⟩, fun e he => by simp [gt, he]⟩⟩
  case round =>
    clear hT
    obtain ⟨m, dl, rfl, hm, hg, hT, hC⟩ := hrel
    by_cases hm0 : m = 0
    · subst hm0
      have hneg : ((0 : Nat) : Int) - 1 = -1 := rfl
      rw [hneg]
      have hend := G.can_end HI.out.1 hC.out.1
      rw [← sq_all] at hend
      have HE := Lib.hid hend; clear hend
      have hdl := hT.len
      have hrows := hT.rows (by omega)
      obtain ⟨wo, rfl⟩ : ∃ wo : World, wo = wr := ⟨_, rfl⟩
      go_wp2
      go_loopw [9, 10] (fun ov iv wr => ∃ (i : Nat) (v4 : Value), v4 = ov ∧ iv = .int .i64 i ∧ i ≤ P.orders.length ∧ Ext wo wr ∧ ShQ (fun _ => False) wo.heap.size wr v4 (seqOf i (gt dl))) (fun _ iv _ => P.orders.length - (intOf iv).toNat)
      case atStart => exact ⟨0, _, rfl, rfl, by omega, World.grownBy_alloc _ _ _, ShQ.lit _ _ _ (Nat.le_refl _)⟩
      case round =>
        obtain ⟨i, v4, rfl, rfl, hi, hgi, hQ⟩ := hrel
        by_cases hlt : i < P.orders.length
        · have hlt' : (i : Int) < P.orders.length := by omega
          have hst := seqOf_succ i (gt dl)
          obtain ⟨_, hcc⟩ := hT.at i hlt
          rcases hcc with ⟨h0, hcell⟩ | ⟨hne, ab, capb, hcell, hbI⟩
          · rw [if_pos h0, List.append_nil] at hst
            have HST := Lib.hid hst; clear hst h0
            have hcr := hgi.cell hcell (by simp)
            go_wp2
            go_roundw
            case rel => exact ⟨i + 1, v4, rfl, by go_num, by omega, hgi, by rw [HST.out]; exact hQ⟩
            case measure => simp [intOf]; omega
          · rw [if_neg hne] at hst
            have hln : (0 : Int) < (gt dl i).length := by
              have : 0 < (gt dl i).length := List.length_pos_iff.2 hne
              omega
            have hsl := seqOf_len i (gt dl)
            have HST := Lib.hid hst; clear hst hne
            have hcr := hgi.cell hcell (by simp)
            have hrI : Ints (fun k => ¬ False ∧ v4.ownBlock ≠ some k) wr (.slice (some ab) (gt dl i).length capb) (gt dl i) := Ints.mono hbI (fun k _ hk => ⟨⟨id, fun e => by have := (hQ.lt k e).1; omega⟩, Nat.lt_of_lt_of_le hk hgi.size, hgi.block k hk (by simp)⟩)
            go_wp2_with (first | (at_builtin; refine wp_shq_app rfl _ _ rfl (fun _ => False) wo.heap.size v4 _ (seqOf i (gt dl)) (gt dl i) rfl wr hQ rfl hrI rfl (by omega) hgi.size ?_; intro v5 w5 hQ5 hg5 hb5; have hgw5 := grown_own hgi hg5 (fun j hj hlt => by have := (hQ.lt j hj).1; omega)) | fail)
            go_roundw
            case rel => exact ⟨i + 1, v5, rfl, by go_num, by omega, hgw5, by rw [HST.out]; exact hQ5⟩
            case measure => simp [intOf]; omega
        · have hie : i = P.orders.length := by omega
          subst hie
          rw [HE.out] at hQ
          obtain ⟨az, capz, hvz, _⟩ := hQ.shape
          subst hvz
          go_wp2
          go_ret
          exact ⟨_, rfl, grown_trans hg0 (grown_trans hg hgi), hQ.rows⟩
    · obtain ⟨d, rfl⟩ : ∃ d, m = d + 1 := ⟨m - 1, by omega⟩
      rw [show (((d + 1 : Nat)) : Int) - 1 = d by omega]
      have hdn : d < P.orders.length := by omega
      have hdn' : (d : Int) < P.orders.length := by omega
      have hd0 : (0 : Int) ≤ d := by omega
      have hwd : IntKind.i64.wrap ((d : Int) - 1) = (d : Int) - 1 := IntWalk.i64_in _ (by omega)
      obtain ⟨bb, off, a2, cap2, hat, _, _, hc, hr⟩ := Rows2.at ht d (by rw [HI.out.2]; exact hdn)
      subst hat
      have hgw := grown_trans hg0 hg
      have hcr := hgw.cell hc (by simp)
      clear hc hm0
      by_cases hb : gt b d = []
      · have hbl : ((((gt b d).length : Nat) : Int) == 0) = true := by rw [hb]; rfl
        have hC2 : CanInv P H (gt b) (gt dl) d := (can_skip (k := P.orders.length - (d + 1)) hC.out.1 hb).1.congr (fun e h1 h2 => by
          by_cases he : e = d
          · subst he; rw [if_pos rfl]; exact hC.out.2 e (by omega)
          · rw [if_neg he])
        have HC2 : Hid (CanInv P H (gt b) (gt dl) d ∧ ∀ e, e < d → gt dl e = []) := Lib.hid ⟨hC2, fun e he => hC.out.2 e (by omega)⟩
        clear hC2 hb
        go_wp2
        go_roundw
        case rel => exact ⟨d, dl, rfl, by omega, hg, hT, HC2⟩
        case measure => simp [intOf]
      · have hbl : ((((gt b d).length : Nat) : Int) == 0) = false := by
          have : 0 < (gt b d).length := List.length_pos_iff.2 hb
          simp; omega
        have hXV : Vec P.orders (gt b d) := (HI.out.1.mem d hdn hb).2.1.1
        have hxI0 : Ints (fun k => k ≠ w.heap.size + 1) wr (.slice a2 (gt b d).length cap2) (gt b d) := Ints.mono hr (fun k _ hk => ⟨by omega, Nat.lt_of_lt_of_le hk hgw.size, hgw.block k hk (by simp)⟩)
        have HB := Lib.hid (And.intro hb hXV); clear hb hXV
        obtain ⟨wo, rfl⟩ : ∃ wo : World, wo = wr := ⟨_, rfl⟩
        go_wp2
        clear hbl hcr
        go_loopw [7, 8] (fun xv ev wr => ∃ (e : Nat) (Y : List Int), ev = .int .i64 e ∧ d + 1 ≤ e ∧ e ≤ P.orders.length ∧ Ext wo wr ∧ Ints (fun k => k ≠ w.heap.size + 1) wr xv Y ∧ Hid (FullTo P (gt dl) (d + 1) (gt b d) e Y)) (fun _ ev _ => P.orders.length - (intOf ev).toNat)
        case atStart => exact ⟨d + 1, _, by go_num, Nat.le_refl _, by omega, Ext.refl _, hxI0, Lib.hid (G.fullTo_zero HB.out.2)⟩
        case round =>
          clear hxI0
          obtain ⟨e, Y, rfl, hde, he, hge, hY, hF⟩ := hrel
          have hYV := hF.out.vec
          have hYl : Y.length = P.orders.length := hYV.1
          obtain ⟨ay, capy, hvy, _, _⟩ := hY.shape
          rw [hYl] at hvy
          subst hvy
          by_cases hlt : e < P.orders.length
          · have hlt' : (e : Int) < P.orders.length := by omega
            have he0 : (0 : Int) ≤ e := by omega
            obtain ⟨by_, oy, rfl, _, _, hcy⟩ := Ints.at hY e (by omega)
            obtain ⟨_, hcc⟩ := hT.at e hlt
            rcases hcc with ⟨h0, hcell⟩ | ⟨hne, ab, capb, hcell, hbI⟩
            · have hF2 := Lib.hid (hF.out.skip (.inl h0)); clear h0 hYV
              have hcr := hge.cell hcell (by simp)
              go_wp2
              go_roundw
              case rel => exact ⟨e + 1, Y, by go_num, by omega, by omega, hge, hY, hF2⟩
              case measure => simp [intOf]; omega
            · have hln : (0 : Int) < (gt dl e).length := by
                have : 0 < (gt dl e).length := List.length_pos_iff.2 hne
                omega
              have hcr := hge.cell hcell (by simp)
              by_cases hy : gt Y e = 0
              · have hyb : (gt Y e != 0) = false := by simp [hy]
                have hF2 := Lib.hid (hF.out.skip (.inr hy)); clear hYV hy hne
                go_wp2
                go_roundw
                case rel => exact ⟨e + 1, Y, by go_num, by omega, by omega, hge, hY, hF2⟩
                case measure => simp [intOf]; omega
              · have hyb : (gt Y e != 0) = true := by simp [hy]
                have hyd := hYV.2 e hlt
                have ho := hP.ord7 e hlt
                have hwn : IntKind.i64.wrap (-(gt Y e)) = -(gt Y e) := IntWalk.i64_in _ (by omega)
                obtain ⟨_, m2, m3⟩ := hC.out.1.mem e (by omega) hlt hne
                have hF2 := Lib.hid (G.fullTo_step HB.out.2 (by omega) hlt hne ⟨m2, m3⟩ hF.out)
                have hpV := G.pwZ_vec m2.1 (-(gt Y e))
                have hpl : (pwZ P (gt dl e) (-(gt Y e))).length ≤ 6 := by rw [hpV.1]; omega
                have HD := Lib.hid (And.intro m2.1 (And.intro hpV (And.intro hpl (And.intro hYV (And.intro hyd ho))))); clear m2 m3 hpV hpl hYV hyd ho hne hy
                have hg0e := grown_trans hg hge
                have e1 : ∀ w', Ext wr w' → w'.cell? ⟨w.heap.size, 0, none⟩ = some vo6 := fun w' h => (grown_trans hg0e h).cell hc0 (by simp)
                have e2 : ∀ w', Ext wr w' → w'.cell? ⟨w.heap.size, 1, none⟩ = some vp6 := fun w' h => (grown_trans hg0e h).cell hc1 (by simp)
                have e3 : ∀ w', Ext wr w' → w'.cell? ⟨w.heap.size, 2, none⟩ = some vc6 := fun w' h => (grown_trans hg0e h).cell hc2 (by simp)
                have e4 : ∀ w', Ext wr w' → w'.cell? ⟨w.heap.size + 1, e, none⟩ = some (.slice (some ab) (gt dl e).length capb) := fun w' h => h.cell hcr (by simp)
                have e5 : ∀ w', Ext wr w' → w'.cell? ⟨by_, oy + e, none⟩ = some (.int .i64 (gt Y e)) := fun w' h => h.cell hcy (by simp)
                go_wp2
                clear hcr hcy hcell
                go_region_held3 (fun w' => Ext wr w') (first | exact grown_drew _ _ | assumption)
                  (first
                    | (go_at_call 113; refine Calls.mono (Calls.rel (w0 := wr) (by assumption) (l10Pow_ok P G _ _ _ (gt dl e) _ Any Any ⟨_, _, _, rfl, Pres3.ext (Pres3.ext h36 hg0e) (by assumption)⟩ (Ints.sub (Ints.ext (Ints.ext hbI hge) (by assumption)) (fun _ _ _ => trivial)) HD.out.1 (by have := HD.out.2.2.2.2.1; have := HD.out.2.2.2.2.2; omega))) ?_; rintro eA wA ⟨vA, rfl, hgA, hsA, hOA⟩; have hOA2 := hOA.ints (by have := HD.out.2.2.1; omega))
                    | (go_at_call 176; refine Calls.mono (Calls.rel (w0 := wr) (by assumption) (l08Mul_ok P hP _ _ _ _ Y _ Any Any Any ⟨_, _, _, rfl, Pres3.ext (Pres3.ext h36 hg0e) (by assumption)⟩ (Ints.sub (Ints.ext hY (by assumption)) (fun _ _ _ => trivial)) hOA2 HD.out.2.2.2.1 HD.out.2.1)) ?_; rintro eB wB ⟨vB, rfl, hgB, hsB, hOB⟩))
                clear e1 e2 e3 e4 e5
                have hYB : Ints (fun k => k ≠ w.heap.size + 1) wB vB (rMul P Y (pwZ P (gt dl e) (-(gt Y e)))) := ints_of_own hOB (by rw [hF2.out.vec.1]; omega) (fun k hk => by have := (hOB.lt k hk).1; have := hT.lt; have := hge.size; omega)
                go_wp2
                go_roundw
                case rel => exact ⟨e + 1, _, by go_num, by omega, by omega, grown_trans hge hgB, hYB, hF2⟩
                case measure => simp [intOf]; omega
          · have hee : e = P.orders.length := by omega
            subst hee
            have hYne : Y ≠ [] := fun h => by rw [h] at hYl; simp at hYl; omega
            have hTr := hT.ext hge
            obtain ⟨hs5, hg5⟩ := hTr.put d (u := .slice ay P.orders.length capy) (y := Y) (Ints.sub hY (fun k hk _ => ⟨hk, id⟩)) hYne
            obtain ⟨hfr, hcc⟩ := hTr.at d hdn
            have hcd : wr.cell? ⟨w.heap.size + 1, d, none⟩ = some (.slice none 0 0) := hcc.elim (fun h => h.2) (fun h => absurd (hC.out.2 d (by omega)) h.1)
            have hst := (G.can_step (k := P.orders.length - (d + 1)) HI.out.1 hC.out.1 (by omega) HB.out.1 (hF.out.repTo hC.out.1 (by omega))).1
            have hC2 : CanInv P H (gt b) (gt (dl.set d Y)) d := hst.congr (fun i h1 h2 => by
              by_cases hi : i = d
              · subst hi; rw [if_pos rfl, gt_set_eq _ _ _ (by rw [hT.len]; omega)]
              · rw [if_neg hi, gt_set_ne _ _ _ _ (fun h => hi h.symm)])
            have HC2 : Hid (CanInv P H (gt b) (gt (dl.set d Y)) d ∧ ∀ i, i < d → gt (dl.set d Y) i = []) := Lib.hid ⟨hC2, fun i hi => by rw [gt_set_ne _ _ _ _ (by omega)]; exact hC.out.2 i (by omega)⟩
            have hg0n : Ext w0 (wr.setCell ⟨w.heap.size + 1, d, none⟩ (.slice ay P.orders.length capy)) := grown_own (grown_trans hg hge) hg5 (fun j hj hlt => by cases hj; have := HS.out; omega)
            clear hcc hst hC2 hYV hTr hg5
            go_wp2
            go_roundw
            case rel => exact ⟨d, dl.set d Y, rfl, by omega, hg0n, hs5, HC2⟩
            case measure => simp [intOf]

end Go.Proofs.YtdklekdpdbjfiaaGreat

/- The reference's sifting: spec.l12Strip. -/
namespace Go.Proofs.YtdklekdpdbjfiaaGreat
open Go.RowKit

set_option maxRecDepth 100000 in
set_option maxHeartbeats 2000000 in
theorem l12Strip_ok (P : Pr) (G : Grp P) (w : World) (pv tv xv : Value) (b : List (List Int)) (X : List Int) (Sp Sb Sx : Nat → Prop) (hpv : PresV Sp w pv P) (ht : Rows2 Sb w tv b) (hx : Ints Sx w xv X) (hX : Vec P.orders X)
    (hlb : b.length = P.orders.length) (htab : ∀ d, d < P.orders.length → gt b d ≠ [] → T P d (gt b d) ∧ gt (gt b d) d = 1) :
    Calls Tryz.prog 112 #[pv, tv, xv] w (Ret w fun w' v => ∃ (d : Nat) (r : Value) (Y : List Int), v = .tuple #[.int .i64 d, r] ∧ Own w.heap.size w' r Y ∧ StripTo P b X d Y ∧ d ≤ P.orders.length ∧ (d < P.orders.length → gt Y d ≠ 0 ∧ gt b d = [])) := by
  have hP := G.v
  have hn6 := hP.n6
  obtain ⟨vo, vp, vc, rfl, h3⟩ := hpv
  have hp0 := PresP.box h3 31
  have hg0 : Ext w (w.alloc (.cells #[vo, vp, vc] 31)) := World.grownBy_alloc _ _ _
  have hx0 := hx.ext hg0
  have ht0 := Rows2.ext ht hg0
  have hXl : X.length ≤ 6 := by rw [hX.1]; omega
  have hs0 : (w.alloc (.cells #[vo, vp, vc] 31)).heap.size = w.heap.size + 1 := by simp
  obtain ⟨at_, capt, hvt, _, _⟩ := Sl.shape ht
  rw [hlb] at hvt
  subst hvt
  have HI := Lib.hid (And.intro htab (And.intro hX hlb)); clear htab hX hlb
  obtain ⟨vo6, vp6, vc6, _, _, hc0, hc1, hc2, h36⟩ := hp0.at
  simp only [Nat.zero_add] at hc1 hc2
  clear hp0
  go_enter Tryz.func112, Tryz.ntmps112
  go_wp2_with fail
  have HS := Lib.hid hs0; clear hs0
  generalize hw0 : w.alloc (.cells #[vo, vp, vc] 31) = w0 at *
  clear hw0
  refine Calls.mono (l01Own_ok w0 xv X Sx hx0 (by omega)) ?_
  rintro e1 w1 ⟨ov, rfl, hg1, hO1⟩
  go_wp2
  go_loopw [8, 9] (fun ov iv wr => ∃ (d : Nat) (Y : List Int), iv = .int .i64 d ∧ d ≤ P.orders.length ∧ Ext w0 wr ∧ Own w.heap.size wr ov Y ∧ Hid (StripTo P b X d Y)) (fun _ iv _ => P.orders.length - (intOf iv).toNat)
  case atStart => exact ⟨0, X, rfl, by omega, hg1, hO1.weak (by have := HS.out; omega), Lib.hid (stripTo_zero HI.out.2.1)⟩
  case round =>
    clear hO1
    obtain ⟨d, Y, rfl, hd, hg, hO, hR⟩ := hrel
    have hYV := hR.out.vec.1
    have hYl : Y.length = P.orders.length := hYV.1
    have hYi := hO.ints (by omega)
    obtain ⟨ay, capy, hvy, _, _⟩ := hYi.shape
    rw [hYl] at hvy
    subst hvy
    by_cases hlt : d < P.orders.length
    · have hlt' : (d : Int) < P.orders.length := by omega
      obtain ⟨bb, off, a2, cap2, rfl, _, _, hc, hr⟩ := Rows2.at (Rows2.ext ht0 hg) d (by rw [HI.out.2.2]; exact hlt)
      obtain ⟨by_, oy, rfl, _, _, hcy⟩ := Ints.at hYi d (by omega)
      by_cases hy : gt Y d = 0
      · have hyb : (gt Y d == 0) = true := by simp [hy]
        have hR2 := Lib.hid (hR.out.skip hy); clear hYV hy
        go_wp2
        go_roundw
        case rel => exact ⟨d + 1, Y, by go_num, by omega, hg, hO, hR2⟩
        case measure => simp [intOf]; omega
      · have hyb : (gt Y d == 0) = false := by simp [hy]
        by_cases hb : gt b d = []
        · have hbl : ((((gt b d).length : Nat) : Int) == 0) = true := by rw [hb]; rfl
          have HB := Lib.hid (And.intro hb hy); clear hb hYV hy
          go_wp2
          go_ret2
          exact ⟨_, rfl, grown_trans hg0 hg, d, _, Y, rfl, hO, hR.out, by omega, fun _ => ⟨HB.out.2, HB.out.1⟩⟩
        · have hbl : ((((gt b d).length : Nat) : Int) == 0) = false := by
            have : 0 < (gt b d).length := List.length_pos_iff.2 hb
            simp; omega
          have hyd := hYV.2 d hlt
          have ho := hP.ord7 d hlt
          have hwn : IntKind.i64.wrap (-(gt Y d)) = -(gt Y d) := IntWalk.i64_in _ (by omega)
          obtain ⟨m2, m3⟩ := HI.out.1 d hlt hb
          have hR2 := Lib.hid (G.stripTo_step hlt hb ⟨m2, m3⟩ hy hR.out)
          have hpV := G.pwZ_vec m2.1 (-(gt Y d))
          have hpl : (pwZ P (gt b d) (-(gt Y d))).length ≤ 6 := by rw [hpV.1]; omega
          have HB := Lib.hid (And.intro m2.1 (And.intro hpV (And.intro hpl (And.intro hYV (And.intro hyd ho))))); clear m2 m3 hpV hpl hYV hyd ho hb hy
          have e1 : ∀ w', Ext wr w' → w'.cell? ⟨w.heap.size, 0, none⟩ = some vo6 := fun w' h => (grown_trans hg h).cell hc0 (by simp)
          have e2 : ∀ w', Ext wr w' → w'.cell? ⟨w.heap.size, 1, none⟩ = some vp6 := fun w' h => (grown_trans hg h).cell hc1 (by simp)
          have e3 : ∀ w', Ext wr w' → w'.cell? ⟨w.heap.size, 2, none⟩ = some vc6 := fun w' h => (grown_trans hg h).cell hc2 (by simp)
          have e4 : ∀ w', Ext wr w' → w'.cell? ⟨bb, off + d, none⟩ = some (.slice a2 (gt b d).length cap2) := fun w' h => h.cell hc (by simp)
          have e5 : ∀ w', Ext wr w' → w'.cell? ⟨by_, oy + d, none⟩ = some (.int .i64 (gt Y d)) := fun w' h => h.cell hcy (by simp)
          go_wp2
          clear hc hcy
          go_region_held3 (fun w' => Ext wr w') (first | exact grown_drew _ _ | assumption)
            (first
              | (go_at_call 113; refine Calls.mono (Calls.rel (w0 := wr) (by assumption) (l10Pow_ok P G _ _ _ (gt b d) _ Any Any ⟨_, _, _, rfl, Pres3.ext (Pres3.ext h36 hg) (by assumption)⟩ (Ints.sub (Ints.ext hr (by assumption)) (fun _ _ _ => trivial)) HB.out.1 (by have := HB.out.2.2.2.2.1; have := HB.out.2.2.2.2.2; omega))) ?_; rintro eA wA ⟨vA, rfl, hgA, hsA, hOA⟩; have hOA2 := hOA.ints (by have := HB.out.2.2.1; omega))
              | (go_at_call 176; refine Calls.mono (Calls.rel (w0 := wr) (by assumption) (l08Mul_ok P hP _ _ _ _ Y _ Any Any Any ⟨_, _, _, rfl, Pres3.ext (Pres3.ext h36 hg) (by assumption)⟩ (Ints.sub (Ints.ext hYi (by assumption)) (fun _ _ _ => trivial)) hOA2 HB.out.2.2.2.1 HB.out.2.1)) ?_; rintro eB wB ⟨vB, rfl, hgB, hsB, hOB⟩))
          clear e1 e2 e3 e4 e5
          go_wp2
          go_roundw
          case rel => exact ⟨d + 1, _, by go_num, by omega, grown_trans hg hgB, hOB.weak (by have := hg.size; have := HS.out; omega), hR2⟩
          case measure => simp [intOf]; omega
    · have hde : d = P.orders.length := by omega
      subst hde
      go_wp2
      go_ret2
      exact ⟨_, rfl, grown_trans hg0 hg, _, _, Y, rfl, hO, hR.out, by omega, fun h => absurd h (by omega)⟩

end Go.Proofs.YtdklekdpdbjfiaaGreat

/- The reference's closure: spec.l01Own2, l01Inv, l10Comm, l12Close. -/
namespace Go.Proofs.YtdklekdpdbjfiaaGreat
open Go.RowKit

/-- v[:k] at rows -/
theorem run_head_rows (w : World) (a : Option Addr) (n cap : Nat) (k : Int) (h0 : 0 ≤ k) (h1 : k ≤ cap) :
    (Instr.slice 23 (.slice a n cap) none (some (.int .i64 k)) none).run Tryz.prog w = .ok (.slice a k.toNat cap) w := by
  rw [run_slice_h w 23 a n cap (by kernel_rfl) .i64 k h0 h1]
  have : (sizeOf (Tryz.prog.elem 23)).run Tryz.prog w = .ok 1 w := by kernel_rfl
  rw [this]
  cases a with
  | none => simp [Result.andThen, sliced]
  | some a => simp [Result.andThen, sliced, Addr.add]

theorem QOwn.init {B E n cap : Nat} {w : World} {a : Option Addr} {x : Value} {vs : List Value} (h : QOwn B E w (.slice a n cap) (vs ++ [x])) : QOwn B E w (.slice a vs.length cap) vs := by
  rcases h with ⟨_, h⟩ | ⟨g, off, cap', cur, hv, hb, hg, h1, h2, h3, h4⟩
  · simp at h
  · simp only [Value.slice.injEq] at hv
    obtain ⟨rfl, rfl, rfl⟩ := hv
    simp only [List.length_append, List.length_singleton] at h1 h4
    exact .inr ⟨g, off, cap, cur, rfl, hb, hg, by omega, h2, h3, fun i hi => by rw [h4 i (by omega), gt_append_left _ _ _ hi]⟩

/-- the stack without its last -/
theorem ShQ.init {bad : Nat → Prop} {B n cap : Nat} {w : World} {a : Option Addr} {x : List Int} {xs : List (List Int)} (h : ShQ bad B w (.slice a n cap) (xs ++ [x])) : ShQ bad B w (.slice a xs.length cap) xs := by
  obtain ⟨vs, hl, hq, hr⟩ := h
  obtain ⟨ws, u, rfl⟩ : ∃ ws u, vs = ws ++ [u] := by
    refine ⟨vs.dropLast, vs.getLast (fun e => by rw [e] at hl; simp at hl), (List.dropLast_concat_getLast _).symm⟩
  have hl2 : ws.length = xs.length := by simpa using hl
  refine ⟨ws, hl2, by rw [← hl2]; exact hq.init, fun i hi => ?_⟩
  have h2 := hr i (by simp; omega)
  rw [gt_append_left _ _ _ (by omega), gt_append_left _ _ _ hi] at h2
  exact Ints.sub h2 (fun k hk _ => ⟨hk.1, fun e => hk.2 (by cases a <;> exact e)⟩)

set_option maxHeartbeats 1000000 in
theorem l01Own2_ok (w : World) (v : Value) (L : List (List Int)) (S : Nat → Prop) (hv : Rows2 S w v L) (hL : ∀ x ∈ L, x.length ≤ 1000000) (hlen : L.length ≤ 1000000) :
    Calls Tryz.prog 65 #[v] w (Ret w fun w' r => RowsO w.heap.size w' r L) := by
  obtain ⟨a, cap, rfl, _, _⟩ := Sl.shape hv
  have HL := Lib.hid hL; clear hL
  go_enter Tryz.func65, Tryz.ntmps65
  go_wp2
  go_loopw [3, 4] (fun ov iv wr => ∃ (i : Nat) (v4 : Value), v4 = ov ∧ iv = .int .i64 i ∧ i ≤ L.length ∧ Ext w wr ∧ RowsO w.heap.size wr v4 (L.take i)) (fun _ iv _ => L.length - (intOf iv).toNat)
  case atStart => exact ⟨0, _, rfl, rfl, by omega, World.grownBy_alloc _ _ _, [], fun _ _ => False, rfl, World.ownsRow_lit w #[] 0 (Nat.le_refl _) (by decide) rfl, by simp, by simp, by simp⟩
  case round =>
    obtain ⟨i, v4, rfl, rfl, hi, hg, hO⟩ := hrel
    by_cases hlt : i < L.length
    · have hlt' : (i : Int) < L.length := by omega
      obtain ⟨b, off, a2, cap2, rfl, _, _, hc, hr⟩ := Rows2.at (Rows2.ext hv hg) i hlt
      have hstep := take_succ_gt L i hlt
      have hll := HL.out _ (gtMem hlt)
      have htl : (L.take i).length ≤ 1000000 := by rw [List.length_take]; omega
      have HST := Lib.hid (And.intro hstep hll); clear hstep hll
      go_wp2_with fail
      refine Calls.mono (l01Own_ok wr _ (gt L i) _ hr (by have := HST.out.2; omega)) ?_
      rintro eC wC ⟨vC, rfl, hgC, hOC⟩
      have hYO : OwnIn (From wr.heap.size) wC vC (gt L i) := OwnIn.of hOC (by have := HST.out.2; omega) (fun j h1 _ => h1)
      obtain ⟨ay, capy, hvy, _, _⟩ := hYO.ints.shape
      subst hvy
      clear hc
      go_wp2_with (first | (at_builtin; refine wp_app_row rfl _ _ rfl w.heap.size wr wC v4 _ (L.take i) (gt L i) rfl hO hgC hYO rfl rfl htl hg.size ?_; intro v5 w5 hO5 hg5 hg6; have hgw5 := hO.extw hg (Nat.le_refl _) hg5) | fail)
      go_roundw
      case rel => exact ⟨i + 1, v5, rfl, by go_num, by omega, hgw5, by rw [HST.out.1]; exact hO5⟩
      case measure => simp [intOf]; omega
    · have hie : i = L.length := by omega
      subst hie
      rw [List.take_length] at hO
      obtain ⟨az, capz, hvz, _, _⟩ := SlD.shape (hO.toD (by omega))
      subst hvz
      go_wp2
      go_ret
      exact ⟨_, rfl, hg, hO⟩

set_option maxRecDepth 100000 in
set_option maxHeartbeats 2000000 in
theorem l10Comm_ok (P : Pr) (G : Grp P) (w : World) (pv a b : Value) (A B : List Int) (Sp Sa Sb : Nat → Prop) (hp : PresV Sp w pv P) (ha : Ints Sa w a A) (hb : Ints Sb w b B) (hA : Vec P.orders A) (hB : Vec P.orders B) :
    Calls Tryz.prog 115 #[pv, a, b] w (Ret w fun w' v => Own w.heap.size w' v (comR P A B)) := by
  have hP := G.v
  obtain ⟨vo, vp, vc, rfl, h3⟩ := hp
  have hn6 := hP.n6
  have hV1 := G.mulV hB hA
  have hV2 := G.invV hV1
  have hV3 := G.mulV hA hB
  have HV := Lib.hid (And.intro hV1 (And.intro hV2 hV3)); clear hV1 hV2 hV3
  have hg0 : Ext w (w.alloc (.cells #[vo, vp, vc] 31)) := World.grownBy_alloc _ _ _
  have hBx := PresP.box h3 31
  have ha0 := ha.ext hg0
  have hb0 := hb.ext hg0
  have hs0 : (w.alloc (.cells #[vo, vp, vc] 31)).heap.size = w.heap.size + 1 := by simp
  have HS := Lib.hid hs0; clear hs0 ha hb
  go_enter Tryz.func115, Tryz.ntmps115
  go_wp2
  generalize hw0 : w.alloc (.cells #[vo, vp, vc] 31) = w0 at *
  clear hw0
  obtain ⟨vo6, vp6, vc6, _, _, hc0, hc1, hc2, h36⟩ := hBx.at
  have e1 : ∀ w', Ext w0 w' → w'.cell? ⟨w.heap.size, 0, none⟩ = some vo6 := fun w' h => h.cell hc0 (by simp)
  have e2 : ∀ w', Ext w0 w' → w'.cell? ⟨w.heap.size, 1, none⟩ = some vp6 := fun w' h => h.cell (by simpa using hc1) (by simp)
  have e3 : ∀ w', Ext w0 w' → w'.cell? ⟨w.heap.size, 2, none⟩ = some vc6 := fun w' h => h.cell (by simpa using hc2) (by simp)
  clear hc0 hc1 hc2
  go_region_held3 (fun w' => Ext w0 w') (first | exact grown_drew _ _ | assumption)
    (first
      | (revert hOF2; intro hOF2; go_at_call 176; refine Calls.mono (Calls.rel (w0 := w0) (by assumption) (l08Mul_ok P hP _ _ _ _ _ _ Any Any Any ⟨_, _, _, rfl, Pres3.ext h36 (by assumption)⟩ hOB2 hOF2 HV.out.2.1 HV.out.2.2)) ?_; rintro eC wC ⟨vC, rfl, hgC, hsC, hOC⟩)
      | (revert hOB; intro hOB; go_at_call 176; refine Calls.mono (Calls.rel2 (w0 := w0) (by assumption) (l08Mul_ok P hP _ _ _ _ A B Any Sa Sb ⟨_, _, _, rfl, Pres3.ext h36 (by assumption)⟩ (Ints.ext ha0 (by assumption)) (Ints.ext hb0 (by assumption)) hA hB)) ?_; rintro eF wF ⟨vF, rfl, hgF, hgF2, hsF, hOF⟩; have hOB2 := (hOB.ext0 hgF2).ints (by rw [HV.out.2.1.1]; omega); have hOF2 := hOF.ints (by rw [HV.out.2.2.1]; omega))
      | (go_at_call 178; refine Calls.mono (Calls.rel (w0 := w0) (by assumption) (l10Inv_ok P hP _ _ _ _ Any Any ⟨_, _, _, rfl, Pres3.ext h36 (by assumption)⟩ hOA2 HV.out.1)) ?_; rintro eB wB ⟨vB, rfl, hgB, hsB, hOB⟩)
      | (go_at_call 176; refine Calls.mono (Calls.rel (w0 := w0) (by assumption) (l08Mul_ok P hP _ _ _ _ B A Any Sb Sa ⟨_, _, _, rfl, Pres3.ext h36 (by assumption)⟩ (Ints.ext hb0 (by assumption)) (Ints.ext ha0 (by assumption)) hB hA)) ?_; rintro eA wA ⟨vA, rfl, hgA, hsA, hOA⟩; have hOA2 := hOA.ints (by rw [HV.out.1.1]; omega)))
  clear e1 e2 e3
  go_wp2
  go_ret
  exact ⟨_, rfl, grown_trans hg0 hgC, hOC.weak (by have := HS.out; omega)⟩

theorem l01Mod_ok (a m : Int) (w : World) (h1 : 0 ≤ a) (h2 : a < m) :
    Calls Tryz.prog 179 #[.int .i64 a, .int .i64 m] w fun e w' => e = .returned (.int .i64 a) ∧ w = w' := by
  have e1 : a.tmod m = a := Int.tmod_eq_of_lt h1 h2
  have hm0 : m ≠ 0 := by omega
  have hmb : (m == 0) = false := by simp; omega
  go_enter Tryz.func179, Tryz.ntmps179
  go_wp2
  go_ret
  exact ⟨rfl, rfl⟩

theorem inv_ex {a m : Int} (hm : m = 2 ∨ m = 3 ∨ m = 5 ∨ m = 7) (h1 : 1 ≤ a) (h2 : a < m) : ∃ y : Int, 1 ≤ y ∧ y < m ∧ (a * y) % m = 1 := by
  rcases hm with rfl | rfl | rfl | rfl
  · have : a = 1 := by omega
    subst this; exact ⟨1, by decide, by decide, by decide⟩
  · rcases (show a = 1 ∨ a = 2 by omega) with rfl | rfl
    · exact ⟨1, by decide, by decide, by decide⟩
    · exact ⟨2, by decide, by decide, by decide⟩
  · rcases (show a = 1 ∨ a = 2 ∨ a = 3 ∨ a = 4 by omega) with rfl | rfl | rfl | rfl
    · exact ⟨1, by decide, by decide, by decide⟩
    · exact ⟨3, by decide, by decide, by decide⟩
    · exact ⟨2, by decide, by decide, by decide⟩
    · exact ⟨4, by decide, by decide, by decide⟩
  · rcases (show a = 1 ∨ a = 2 ∨ a = 3 ∨ a = 4 ∨ a = 5 ∨ a = 6 by omega) with rfl | rfl | rfl | rfl | rfl | rfl
    · exact ⟨1, by decide, by decide, by decide⟩
    · exact ⟨4, by decide, by decide, by decide⟩
    · exact ⟨5, by decide, by decide, by decide⟩
    · exact ⟨2, by decide, by decide, by decide⟩
    · exact ⟨3, by decide, by decide, by decide⟩
    · exact ⟨6, by decide, by decide, by decide⟩

set_option maxHeartbeats 1000000 in
/-- the least inverse, as the reference looks for it -/
theorem l01Inv_ok (a m : Int) (w : World) (hm : m = 2 ∨ m = 3 ∨ m = 5 ∨ m = 7) (h1 : 1 ≤ a) (h2 : a < m) :
    Calls Tryz.prog 114 #[.int .i64 a, .int .i64 m] w (Ret w fun _ v => ∃ k : Int, v = .int .i64 k ∧ 0 ≤ k ∧ k < m ∧ (k * a) % m = 1) := by
  have hex := inv_ex hm h1 h2
  have HE := Lib.hid hex; clear hex
  have hm7 : 2 ≤ m ∧ m ≤ 7 := by omega
  obtain ⟨hm2, hm7⟩ := hm7
  clear hm
  have hcon := l01Mod_ok a m w (by omega) h2
  go_enter Tryz.func114, Tryz.ntmps114
  go_wp2
  go_loopw [5] (fun xv wr => ∃ x : Int, xv = .int .i64 x ∧ 1 ≤ x ∧ x ≤ m ∧ w = wr ∧ Hid (∀ y, 1 ≤ y → y < x → (a * y) % m ≠ 1)) (fun xv _ => (m - intOf xv).toNat)
  case atStart => exact ⟨1, rfl, by omega, by omega, rfl, Lib.hid (fun y h1 h2 => by omega)⟩
  case round =>
    obtain ⟨x, rfl, hx1, hxm, rfl, hN⟩ := hrel
    by_cases hlt : x < m
    · have hax0 : 0 ≤ a * x := Int.mul_nonneg (by omega) (by omega)
      have hax : a * x ≤ 7 * 7 := Int.mul_le_mul (by omega) (by omega) (by omega) (by omega)
      have e1 : IntKind.i64.wrap (a * x) = a * x := IntWalk.i64_in _ (by omega)
      have e2 : (a * x).tmod m = (a * x) % m := Int.tmod_eq_emod_of_nonneg hax0
      have hm0 : (m == 0) = false := by simp; omega
      by_cases hq : (a * x) % m = 1
      · have hb : ((a * x) % m == 1) = true := by simp [hq]
        have hq2 : (x * a) % m = 1 := by rw [Int.mul_comm]; exact hq
        have HQ := Lib.hid hq2; clear hq hq2
        go_wp2_with fail
        refine Calls.mono hcon ?_
        rintro e5 w5 ⟨rfl, rfl⟩
        clear hcon
        go_wp2
        go_ret
        exact ⟨_, rfl, Ext.refl _, x, rfl, by omega, hlt, HQ.out⟩
      · have hb : ((a * x) % m == 1) = false := by simp [hq]
        have HQ := Lib.hid hq; clear hq
        go_wp2_with fail
        refine Calls.mono hcon ?_
        rintro e5 w5 ⟨rfl, rfl⟩
        clear hcon
        go_wp2
        go_roundw
        case rel => exact ⟨x + 1, by go_num, by omega, by omega, trivial, Lib.hid (fun y h1 h2 => by
          by_cases hy : y = x
          · rw [hy]; exact HQ.out
          · exact hN.out y h1 (by omega))⟩
        case measure => simp [intOf]; omega
    · obtain ⟨y, h1, h2, h3⟩ := HE.out
      exact absurd h3 (hN.out y h1 (by omega))

end Go.Proofs.YtdklekdpdbjfiaaGreat
