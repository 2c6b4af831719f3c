/-
  Plain: the two sides' inverses and conjugates in a consistent presentation.
-/
import Derived.Test.YtdfjgpioaomceaaLvlStep
namespace Go.Proofs.Ytdfjgpioaomceaa

section
variable {P : Pr} {f i : Nat}

theorem rImage_zeros : rImage P f i (zeros P.orders.length) = zeros P.orders.length := by
  unfold rImage
  rw [rImgTo_acc]
  exact acc_zero _ _ _ _ _ (fun j _ _ => gt_replicate _ _)

theorem rAt_res (hP : Valid P) (hi : i + (f + 1) = P.orders.length) {x y : List Int} (hx : T P (i + 1) x) (hy : T P (i + 1) y) : rAt P (f + 1) i x y = rAt P f (i + 1) x y := by
  have ho := hP.ord7 i (by omega)
  have h := prV_mul hP hi (0, x) (0, y) ⟨by show 0 < _; omega, hx⟩ ⟨by show 0 < _; omega, hy⟩
  have e0 : ∀ x, T P (i + 1) x → prV i (0, x) = x := fun x hx => set_zero_of hx
  rw [e0 x hx, e0 y hy] at h
  rw [h]
  unfold exm
  simp only [Nat.add_zero, if_neg (by omega : ¬ (gt P.orders i).toNat ≤ 0)]
  exact e0 _ (rAt_T hP f (i + 1) x y (by omega) hx.1 hy.1)

/-- powers of a generator -/
theorem gen_pow (hP : Valid P) (hi : i + (f + 1) = P.orders.length) (L' : Lvl P f (i + 1)) (k : Nat) (hk : k < (gt P.orders i).toNat) :
    iter k (fun y => rAt P (f + 1) i y (unitV P.orders.length i)) (zeros P.orders.length) = prV i (k, zeros P.orders.length) := by
  have hz : T P (i + 1) (zeros P.orders.length) := T.zeros hP _
  induction k with
  | zero => exact (set_zero_of hz).symm
  | succ k ih =>
    show rAt P (f + 1) i (iter k _ _) (unitV P.orders.length i) = _
    have u1 : unitV P.orders.length i = prV i (1, zeros P.orders.length) := by unfold prV unitV zeros; rfl
    rw [ih (by omega), u1, prV_mul hP hi _ _ ⟨by show k < _; omega, hz⟩ ⟨by show 1 < _; omega, hz⟩]
    unfold exm
    simp only [if_neg (by omega : ¬ (gt P.orders i).toNat ≤ k + 1)]
    show prV i (k + 1, rAt P f (i + 1) (rImage P f i (zeros P.orders.length)) (zeros P.orders.length)) = _
    rw [rImage_zeros, L'.grp.el _ hz]

/-- a vector is the generator's power times what stands behind it -/
theorem vec_head (hP : Valid P) (hi : i + (f + 1) = P.orders.length) (L' : Lvl P f (i + 1)) {x : List Int} (hx : T P i x) :
    rAt P (f + 1) i (prV i ((gt x i).toNat, zeros P.orders.length)) (x.set i 0) = x := by
  have hin : i < P.orders.length := by omega
  have hxi := hx.1.2 i hin
  have hd := hx.drop hP hin
  have hz : T P (i + 1) (zeros P.orders.length) := T.zeros hP _
  have h3 := prV_mul hP hi ((gt x i).toNat, zeros P.orders.length) (0, x.set i 0) ⟨by show (gt x i).toNat < _; omega, hz⟩ ⟨by show 0 < _; omega, hd⟩
  have e0 : prV i (0, x.set i 0) = x.set i 0 := set_zero_of hd
  rw [e0] at h3
  rw [h3]
  unfold exm
  simp only [Nat.add_zero, if_neg (by omega : ¬ (gt P.orders i).toNat ≤ (gt x i).toNat)]
  show prV i ((gt x i).toNat, rAt P f (i + 1) (zeros P.orders.length) (x.set i 0)) = x
  rw [L'.grp.el _ hd]
  unfold prV
  simp only [List.set_set]
  refine ext_gt (by simp) (fun k hk => ?_)
  rw [List.length_set] at hk
  rw [gt_set_if _ _ _ _ hk]
  split
  · rename_i h; subst h; omega
  · rfl

theorem rFrom_inv (G : Grp P) (f : Nat) : ∀ (i : Nat) (x : List Int), i + f = P.orders.length → T P i x → T P i (rFrom P f i x) ∧ rAt P f i x (rFrom P f i x) = zeros P.orders.length := by
  have hP := G.v
  induction f with
  | zero => intro i x _ _; exact ⟨T.zeros hP i, rfl⟩
  | succ f ih =>
    intro i x hi hx
    have hin : i < P.orders.length := by omega
    have L := G.tail hi
    have L' := G.tail (f := f) (i := i + 1) (by omega)
    have ho := hP.ord7 i hin
    have hxi := hx.1.2 i hin
    have hd := hx.drop hP hin
    obtain ⟨h1, h2⟩ := ih (i + 1) _ (by omega) hd
    have h1i : T P i (rFrom P f (i + 1) (x.set i 0)) := h1.down (by omega)
    simp only [rFrom]
    by_cases h0 : gt x i = 0
    · rw [if_pos h0]
      have ex : x.set i 0 = x := set_zero_of (hx.up h0)
      rw [ex] at h1i h2 ⊢
      rw [ex] at h1
      exact ⟨h1i, by rw [rAt_res hP hi (hx.up h0) h1]; exact h2⟩
    · rw [if_neg h0]
      have hw := pw_T (i := i) hP hin
      obtain ⟨h3, h4⟩ := ih (i + 1) _ (by omega) hw
      have hg : T P i (prV i ((gt P.orders i - gt x i).toNat, zeros P.orders.length)) := prV_T hP hin ⟨by show (gt P.orders i - gt x i).toNat < _; omega, T.zeros hP _⟩
      have hg2 : T P i (prV i ((gt x i).toNat, zeros P.orders.length)) := prV_T hP hin ⟨by show (gt x i).toNat < _; omega, T.zeros hP _⟩
      have eg : (zeros P.orders.length).set i (gt P.orders i - gt x i) = prV i ((gt P.orders i - gt x i).toNat, zeros P.orders.length) := by
        unfold prV
        simp only
        rw [show (((gt P.orders i - gt x i).toNat : Nat) : Int) = gt P.orders i - gt x i by omega]
      rw [eg]
      have M := L.grp.toMonOn
      have h3i : T P i (rFrom P f (i + 1) (gt P.powers i)) := h3.down (by omega)
      have hdi : T P i (x.set i 0) := hd.down (by omega)
      have hwi : T P i (gt P.powers i) := hw.down (by omega)
      refine ⟨M.cl _ _ (M.cl _ _ h1i hg) h3i, ?_⟩
      have hu := T.unit hP (Nat.le_refl i) hin
      have e1 : rAt P (f + 1) i (x.set i 0) (rFrom P f (i + 1) (x.set i 0)) = zeros P.orders.length := by rw [rAt_res hP hi hd h1]; exact h2
      have e2 : rAt P (f + 1) i (gt P.powers i) (rFrom P f (i + 1) (gt P.powers i)) = zeros P.orders.length := by rw [rAt_res hP hi hw h3]; exact h4
      have e3 : rAt P (f + 1) i (prV i ((gt x i).toNat, zeros P.orders.length)) (prV i ((gt P.orders i - gt x i).toNat, zeros P.orders.length)) = gt P.powers i := by
        rw [← gen_pow hP hi L' _ (by omega), ← gen_pow hP hi L' _ (by omega), ← M.pow_add hu, show (gt x i).toNat + (gt P.orders i - gt x i).toNat = (gt P.orders i).toNat by omega, L.rel.pw i (Nat.le_refl _) hin]
        rw [show P.orders.length - (i + 1) = f by omega]
        have := L'.nf _ hw
        have hr := (acc_rel (fun (y z : List Int) => T P (i + 1) z ∧ y = z) (fun y j => rAt P (f + 1) i y (unitV P.orders.length j)) (fun y j => rAt P f (i + 1) y (unitV P.orders.length j)) (gt P.powers i) (i + 1) (zeros P.orders.length) (zeros P.orders.length) f ⟨L'.grp.one, rfl⟩ (by
          rintro y z l ⟨g1, rfl⟩ a b _
          have hul : T P (i + 1) (unitV P.orders.length l) := T.unit hP (by omega) (by omega)
          exact ⟨L'.grp.cl _ _ g1 hul, rAt_res hP hi g1 hul⟩)).2
        exact hr.trans this
      have hx2 := vec_head hP hi L' hx
      have assoc : rAt P (f + 1) i x (rAt P (f + 1) i (rAt P (f + 1) i (rFrom P f (i + 1) (x.set i 0)) (prV i ((gt P.orders i - gt x i).toNat, zeros P.orders.length))) (rFrom P f (i + 1) (gt P.powers i))) = zeros P.orders.length := by
        have hc := M.cl _ _ h1i hg
        rw [← M.ass _ _ _ hx hc h3i, ← M.ass _ _ _ hx h1i hg]
        have e4 : rAt P (f + 1) i x (rFrom P f (i + 1) (x.set i 0)) = prV i ((gt x i).toNat, zeros P.orders.length) := by
          have e5 : rAt P (f + 1) i x (rFrom P f (i + 1) (x.set i 0)) = rAt P (f + 1) i (rAt P (f + 1) i (prV i ((gt x i).toNat, zeros P.orders.length)) (x.set i 0)) (rFrom P f (i + 1) (x.set i 0)) := by rw [hx2]
          rw [e5, M.ass _ _ _ hg2 hdi h1i, e1, M.er _ hg2]
        rw [e4, e3, e2]
      exact assoc
end

section
variable {P : Pr} (G : Grp P)
include G

theorem Grp.mul_inv {x : List Int} (hx : Vec P.orders x) : rMul P x (rInv P x) = zeros P.orders.length := (rFrom_inv G P.orders.length 0 x (by omega) (T_zero.2 hx)).2
theorem Grp.inv_mul {x : List Int} (hx : Vec P.orders x) : rMul P (rInv P x) x = zeros P.orders.length := G.grp.right_left hx (rInv_vec G.v x hx) (G.mul_inv hx)
theorem Grp.mulV {x y : List Int} (hx : Vec P.orders x) (hy : Vec P.orders y) : Vec P.orders (rMul P x y) := G.grp.cl _ _ hx hy
theorem Grp.invV {x : List Int} (hx : Vec P.orders x) : Vec P.orders (rInv P x) := rInv_vec G.v x hx
theorem Grp.ass {x y z : List Int} (hx : Vec P.orders x) (hy : Vec P.orders y) (hz : Vec P.orders z) : rMul P (rMul P x y) z = rMul P x (rMul P y z) := G.grp.ass x y z hx hy hz
theorem Grp.oneV : Vec P.orders (zeros P.orders.length) := zeros_vec G.v
theorem Grp.conjV {x y : List Int} (hx : Vec P.orders x) (hy : Vec P.orders y) : Vec P.orders (rConj P x y) := G.mulV (G.invV hy) (G.mulV hx hy)
theorem Grp.iInv_eq {x : List Int} (hx : Vec P.orders x) : iInv P x = rInv P x :=
  G.grp.cancel hx (iInv_vec G.v x hx) (G.invV hx) (by rw [G.iInv_mul hx, G.mul_inv hx])
theorem Grp.iConj_eq {x y : List Int} (hx : Vec P.orders x) (hy : Vec P.orders y) : iConj P x y = rConj P x y := by
  unfold iConj rConj
  rw [G.iInv_eq hy, G.tv_eq hx hy, G.tv_eq (G.invV hy) (G.mulV hx hy)]
theorem Grp.conj_one {x : List Int} (hx : Vec P.orders x) : rConj P x (zeros P.orders.length) = x := by
  unfold rConj
  have h1 : rInv P (zeros P.orders.length) = zeros P.orders.length := by
    have := G.mul_inv G.oneV
    rw [G.grp.el _ (G.invV G.oneV)] at this
    exact this
  rw [h1, G.grp.er _ hx, G.grp.el _ hx]
theorem Grp.inv_of {x y : List Int} (hx : Vec P.orders x) (hy : Vec P.orders y) (h : rMul P x y = zeros P.orders.length) : y = rInv P x :=
  G.grp.cancel hx hy (G.invV hx) (by rw [h, G.mul_inv hx])
theorem Grp.inv_mulR {x y : List Int} (hx : Vec P.orders x) (hy : Vec P.orders y) : rInv P (rMul P x y) = rMul P (rInv P y) (rInv P x) := by
  symm
  refine G.inv_of (G.mulV hx hy) (G.mulV (G.invV hy) (G.invV hx)) ?_
  rw [G.ass hx hy (G.mulV (G.invV hy) (G.invV hx)), ← G.ass hy (G.invV hy) (G.invV hx), G.mul_inv hy, G.grp.el _ (G.invV hx), G.mul_inv hx]
theorem Grp.inv_inv {x : List Int} (hx : Vec P.orders x) : rInv P (rInv P x) = x := (G.inv_of (G.invV hx) hx (G.inv_mul hx)).symm
theorem Grp.conj_mul {x y z : List Int} (hx : Vec P.orders x) (hy : Vec P.orders y) (hz : Vec P.orders z) : rConj P (rConj P x y) z = rConj P x (rMul P y z) := by
  unfold rConj
  have c1 := G.mulV hx hy
  rw [G.inv_mulR hy hz, G.ass (G.invV hz) (G.invV hy) (G.mulV hx (G.mulV hy hz)), G.ass (G.invV hy) c1 hz, G.ass hx hy hz]
theorem Grp.conj_back {x y : List Int} (hx : Vec P.orders x) (hy : Vec P.orders y) : rConj P (rConj P x y) (rInv P y) = x := by
  rw [G.conj_mul hx hy (G.invV hy), G.mul_inv hy, G.conj_one hx]
/-- a set that generators keep is kept by all -/
theorem Grp.gen_ind (Q : List Int → Prop) (h1 : Q (zeros P.orders.length)) (hm : ∀ y j, Vec P.orders y → Q y → j < P.orders.length → Q (rMul P y (unitV P.orders.length j))) {x : List Int} (hx : Vec P.orders x) : Q x := by
  have := acc_inv (fun y => Vec P.orders y ∧ Q y) (fun y j => rMul P y (unitV P.orders.length j)) x 0 (zeros P.orders.length) P.orders.length ⟨G.oneV, h1⟩ (fun y j hy _ b _ => ⟨G.mulV hy.1 (unitV_vec G.v j), hm y j hy.1 hy.2 (by omega)⟩)
  have h2 := G.nf hx
  unfold npr at h2
  rw [h2] at this
  exact this.2

end

end Go.Proofs.Ytdfjgpioaomceaa
