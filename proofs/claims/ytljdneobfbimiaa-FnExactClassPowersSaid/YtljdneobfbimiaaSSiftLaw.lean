/-
  Plain: the steps of sifting on both sides.
-/
import Derived.Test.YtljdneobfbimiaaSDep
namespace Go.Proofs.Ytljdneobfbimiaa

section
variable {P : Pr} (G : Grp P)
include G

/-- a power with any exponent -/
def pwZ (P : Pr) (x : List Int) (k : Int) : List Int := if k < 0 then pw P (rInv P x) (-k).toNat else pw P x k.toNat

theorem Grp.pwZ_vec {x : List Int} (hx : Vec P.orders x) (k : Int) : Vec P.orders (pwZ P x k) := by
  unfold pwZ; split
  · exact G.pw_vec (G.invV hx) _
  · exact G.pw_vec hx _
omit G in
theorem Sub.pwZ {H : List Int → Prop} (S : Sub P H) {x : List Int} (hx : H x) (k : Int) : H (Go.Proofs.Ytljdneobfbimiaa.pwZ P x k) := by
  unfold Go.Proofs.Ytljdneobfbimiaa.pwZ; split
  · exact S.pw (S.inv _ hx) _
  · exact S.pw hx _
/-- powers of the inverse -/
theorem Grp.pw_inv {x : List Int} (hx : Vec P.orders x) (k : Nat) : rMul P (pw P (rInv P x) k) (pw P x k) = zeros P.orders.length := by
  have hi := G.invV hx
  induction k with
  | zero => exact G.grp.el _ G.oneV
  | succ k ih =>
    have p1 := G.pw_vec hi k
    have p2 := G.pw_vec hx k
    rw [pw_succ, G.pw_succ' hx, G.ass p1 hi (G.mulV hx p2), ← G.ass hi hx p2, G.inv_mul hx, G.grp.el _ p2, ih]

end

end Go.Proofs.Ytljdneobfbimiaa
