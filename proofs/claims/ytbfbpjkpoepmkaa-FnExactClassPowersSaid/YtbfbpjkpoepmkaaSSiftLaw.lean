/-
  Plain: the steps of sifting on both sides.
-/
import Derived.Test.YtbfbpjkpoepmkaaSDep
namespace Go.Proofs.Ytbfbpjkpoepmkaa

section
variable {P : Pr} (G : Grp P)
include G

/-- a factor from the left that clears the leading entry -/
theorem Grp.left_clear {d : Nat} (hd : d < P.orders.length) {x t : List Int} (hx : T P d x) (ht : T P d t) (ht1 : gt t d = 1) :
    T P (d + 1) (rMul P (pw P t (gt P.orders d - gt x d).toNat) x) ∧ ∀ K, Sub P K → K t → (K (rMul P (pw P t (gt P.orders d - gt x d).toNat) x) ↔ K x) := by
  have ho := G.v.ord7 d hd
  have hxd := hx.1.2 d hd
  have hpT := G.pw_T (Nat.le_of_lt hd) ht (gt P.orders d - gt x d).toNat
  refine ⟨?_, fun K S h1 => ⟨fun h2 => ?_, fun h2 => S.mul _ _ (S.pw h1 _) h2⟩⟩
  · refine (G.T_mul (Nat.le_of_lt hd) hpT hx).up ?_
    rw [(G.right (Nat.le_of_lt hd) hpT.1 hx).2 hd, G.pw_at hd ht, ht1, Int.mul_one, Int.emod_add_emod, show (((gt P.orders d - gt x d).toNat : Nat) : Int) + gt x d = gt P.orders d by omega, Int.emod_self]
  · have h3 := S.mul _ _ (S.inv _ (S.pw h1 (gt P.orders d - gt x d).toNat)) h2
    rwa [← G.ass (G.invV hpT.1) hpT.1 hx.1, G.inv_mul hpT.1, G.grp.el _ hx.1] at h3

/-- a power with any exponent -/
def pwZ (P : Pr) (x : List Int) (k : Int) : List Int := if k < 0 then pw P (rInv P x) (-k).toNat else pw P x k.toNat

theorem Grp.pwZ_vec {x : List Int} (hx : Vec P.orders x) (k : Int) : Vec P.orders (pwZ P x k) := by
  unfold pwZ; split
  · exact G.pw_vec (G.invV hx) _
  · exact G.pw_vec hx _
omit G in
theorem Sub.pwZ {H : List Int → Prop} (S : Sub P H) {x : List Int} (hx : H x) (k : Int) : H (Go.Proofs.Ytbfbpjkpoepmkaa.pwZ P x k) := by
  unfold Go.Proofs.Ytbfbpjkpoepmkaa.pwZ; split
  · exact S.pw (S.inv _ hx) _
  · exact S.pw hx _
theorem Grp.pwZ_T {x : List Int} {d : Nat} (hd : d ≤ P.orders.length) (hx : T P d x) (k : Int) : T P d (pwZ P x k) := by
  unfold pwZ; split
  · exact G.pw_T hd (G.T_inv hd hx) _
  · exact G.pw_T hd hx _

/-- powers of the inverse -/
theorem Grp.pw_inv {x : List Int} (hx : Vec P.orders x) (k : Nat) : rMul P (pw P (rInv P x) k) (pw P x k) = zeros P.orders.length := by
  have hi := G.invV hx
  induction k with
  | zero => exact G.grp.el _ G.oneV
  | succ k ih =>
    have p1 := G.pw_vec hi k
    have p2 := G.pw_vec hx k
    rw [pw_succ, G.pw_succ' hx, G.ass p1 hi (G.mulV hx p2), ← G.ass hi hx p2, G.inv_mul hx, G.grp.el _ p2, ih]

/-- the entry at the depth of an inverse's power -/
theorem Grp.inv_at {x : List Int} {d : Nat} (hd : d < P.orders.length) (hx : T P d x) : (gt (rInv P x) d + gt x d) % gt P.orders d = 0 := by
  have hi := G.T_inv (Nat.le_of_lt hd) hx
  have h := (G.right (Nat.le_of_lt hd) hi.1 hx).2 hd
  rw [G.inv_mul hx.1] at h
  have h0 : gt (zeros P.orders.length) d = 0 := gt_replicate _ _
  rw [← h, h0]

/-- a factor from the right that clears an entry -/
theorem Grp.right_clear {d : Nat} (hd : d < P.orders.length) {x t : List Int} (hx : Vec P.orders x) (ht : T P d t) (ht1 : gt t d = 1) :
    gt (rMul P x (pwZ P t (-(gt x d)))) d = 0 ∧ (∀ k, k < d → gt (rMul P x (pwZ P t (-(gt x d)))) k = gt x k) ∧ Vec P.orders (rMul P x (pwZ P t (-(gt x d)))) := by
  have ho := G.v.ord7 d hd
  have hxd := hx.2 d hd
  have hzT := G.pwZ_T (Nat.le_of_lt hd) ht (-(gt x d))
  have h := G.right (Nat.le_of_lt hd) hx hzT
  refine ⟨?_, h.1, G.mulV hx hzT.1⟩
  rw [h.2 hd]
  by_cases h0 : gt x d = 0
  · have : pwZ P t (-(gt x d)) = zeros P.orders.length := by
      unfold pwZ; rw [h0]; simp; rfl
    have hz : gt (zeros P.orders.length) d = 0 := gt_replicate _ _
    rw [this, hz, h0]; simp
  · have e : pwZ P t (-(gt x d)) = pw P (rInv P t) (gt x d).toNat := by
      unfold pwZ; rw [if_pos (by omega), Int.neg_neg]
    rw [e, G.pw_at hd (G.T_inv (Nat.le_of_lt hd) ht)]
    have hi := G.inv_at hd ht
    rw [ht1] at hi
    have hib := (G.invV ht.1).2 d hd
    -- the inverse's entry is one less than the order
    have e2 : gt (rInv P t) d = gt P.orders d - 1 := by
      by_cases h1 : gt (rInv P t) d + 1 < gt P.orders d
      · rw [Int.emod_eq_of_lt (by omega) h1] at hi; omega
      · omega
    rw [e2, show (((gt x d).toNat : Nat) : Int) = gt x d by omega, Int.add_emod_emod]
    have e3 : gt x d + gt x d * (gt P.orders d - 1) = gt x d * gt P.orders d := by rw [Int.mul_sub, Int.mul_one]; omega
    rw [e3, Int.mul_emod_left]

/-- a leading entry made 1 -/
theorem Grp.lead_one {d : Nat} (hd : d < P.orders.length) {x : List Int} (hx : T P d x) (k : Int) (hk0 : 0 ≤ k) (hk : (k * gt x d) % gt P.orders d = 1) : T P d (pw P x k.toNat) ∧ gt (pw P x k.toNat) d = 1 := by
  refine ⟨G.pw_T (Nat.le_of_lt hd) hx _, ?_⟩
  rw [G.pw_at hd hx, show ((k.toNat : Nat) : Int) = k by omega]; exact hk

end

end Go.Proofs.Ytbfbpjkpoepmkaa
