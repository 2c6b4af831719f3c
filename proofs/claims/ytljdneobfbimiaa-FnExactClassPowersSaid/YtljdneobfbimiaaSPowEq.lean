/-
  Plain: the classes of powers: both sides answer the same.
-/
import Derived.Test.YtljdneobfbimiaaSRepsEq
import Derived.Test.YtljdneobfbimiaaSSiftLaw
namespace Go.Proofs.Ytljdneobfbimiaa

/-- what both sides hand back -/
def powsOf (P : Pr) (k : Int) : List Int := (repsOf P).map (fun x => gt (rCls P).1 (num P (pwZ P x k)).toNat)

section
variable {P : Pr} (G : Grp P)
include G

/-- a power by the residue of its exponent -/
theorem Grp.pw_residue {x : List Int} (hx : Vec P.orders x) (k m : Int) (hm : 0 < m) (h1 : pw P x m.toNat = zeros P.orders.length) : pw P x (k % m).toNat = pwZ P x k := by
  have hb : 0 ≤ k % m ∧ k % m < m := ⟨Int.emod_nonneg _ (by omega), Int.emod_lt_of_pos _ hm⟩
  have hmul : ∀ q : Nat, pw P x (m.toNat * q) = zeros P.orders.length := fun q => by
    rw [G.pw_mul hx, h1]
    have : ∀ q, pw P (zeros P.orders.length) q = zeros P.orders.length := by
      intro q
      induction q with
      | zero => rfl
      | succ q ih => rw [pw_succ, ih, G.grp.el _ G.oneV]
    exact this q
  unfold pwZ
  split
  · rename_i hneg
    -- k < 0: x^(k mod m) x^(-k) = 1
    obtain ⟨q, hq⟩ : ∃ q : Nat, (k % m).toNat + (-k).toNat = m.toNat * q := by
      refine ⟨(-(k / m)).toNat, ?_⟩
      have h2 := Int.emod_add_mul_ediv k m
      have h3 : k / m ≤ 0 := by
        rcases Int.lt_or_le 0 (k / m) with h | h
        · have : m * 1 ≤ m * (k / m) := Int.mul_le_mul_of_nonneg_left (by omega) (by omega)
          omega
        · exact h
      have h4 : ((m.toNat * (-(k / m)).toNat : Nat) : Int) = m * (-(k / m)) := by
        rw [Int.natCast_mul, show ((m.toNat : Nat) : Int) = m by omega, show (((-(k / m)).toNat : Nat) : Int) = -(k / m) by omega]
      rw [Int.mul_neg] at h4
      omega
    have h5 : rMul P (pw P x (k % m).toNat) (pw P x (-k).toNat) = zeros P.orders.length := by rw [← G.pw_add hx, hq, hmul]
    have h6 := G.pw_inv hx (-k).toNat
    have p1 := G.pw_vec hx (k % m).toNat
    have p2 := G.pw_vec hx (-k).toNat
    have p3 := G.pw_vec (G.invV hx) (-k).toNat
    -- two left inverses of one element
    have h7 : rMul P (rMul P (pw P x (k % m).toNat) (pw P x (-k).toNat)) (rInv P (pw P x (-k).toNat)) = rMul P (rMul P (pw P (rInv P x) (-k).toNat) (pw P x (-k).toNat)) (rInv P (pw P x (-k).toNat)) := by rw [h5, h6]
    rwa [G.ass p1 p2 (G.invV p2), G.ass p3 p2 (G.invV p2), G.mul_inv p2, G.grp.er _ p1, G.grp.er _ p3] at h7
  · rename_i hneg
    have h2 := Int.emod_add_mul_ediv k m
    have h3 : 0 ≤ k / m := Int.ediv_nonneg (by omega) (by omega)
    have h4 : k.toNat = (k % m).toNat + m.toNat * (k / m).toNat := by
      have h4 : ((m.toNat * (k / m).toNat : Nat) : Int) = m * (k / m) := by
        rw [Int.natCast_mul, show ((m.toNat : Nat) : Int) = m by omega, show (((k / m).toNat : Nat) : Int) = k / m by omega]
      omega
    rw [h4, G.pw_add hx, hmul, G.grp.er _ (G.pw_vec hx _)]

/-- the number of the class that a search finds -/
theorem Grp.find_cls {y : List Int} (hy : Vec P.orders y) {r : Int} (h : FirstAt (fun i => bsFound (gt (iCls P) i) y) (iCls P).length r) : r = gt (rCls P).1 (num P y).toNat := by
  have I := G.cls_inv (ordP P).toNat (Nat.le_refl _)
  have hb := num_bd G.v hy
  have hey : elAt P (((num P y).toNat : Nat) : Int) = y := by
    rw [show (((num P y).toNat : Nat) : Int) = num P y by omega]; exact elAt_num G.v hy
  have hd := I.done (num P y).toNat (by omega)
  rcases I.at_ (num P y).toNat (by omega) with ⟨h1, _⟩ | ⟨j, h1, h2, h3, h4⟩
  · omega
  · rw [hey] at h3 h4
    have hj : bsFound (gt (iClsTo P (ordP P).toNat) j) y = true := by
      rw [bsFound_mem _ _ (I.ok _ (gt_mem h2)).so]; exact decide_eq_true h3
    rcases h with ⟨k, hk1, hk2, hk3, _⟩ | ⟨_, h6⟩
    · have hin : y ∈ gt (iCls P) k := by
        have h7 : bsFound (gt (iClsTo P (ordP P).toNat) k) y = true := hk3
        rw [bsFound_mem _ _ (I.ok _ (gt_mem hk2)).so] at h7
        exact of_decide_eq_true h7
      have := h4 k hk2 hin
      show r = gt (clsTo P (ordP P).toNat).1 (num P y).toNat
      rw [h1, hk1, this]
    · have h8 : bsFound (gt (iClsTo P (ordP P).toNat) j) y = false := h6 j h2
      rw [h8] at hj; cases hj
end

end Go.Proofs.Ytljdneobfbimiaa
