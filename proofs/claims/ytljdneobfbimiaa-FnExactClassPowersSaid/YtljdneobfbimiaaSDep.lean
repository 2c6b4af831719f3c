/-
  Plain: depths; every subgroup has a canonical sequence, and every element a representative.
-/
import Derived.Test.YtljdneobfbimiaaSSubAdd
namespace Go.Proofs.Ytljdneobfbimiaa

section
variable {P : Pr} (G : Grp P)
include G

/-- the turn of one entry -/
theorem Grp.clear {d : Nat} (hd : d < P.orders.length) {x z : List Int} (hx : Vec P.orders x) (hz : T P d z) (hz1 : gt z d = 1) (k : Nat) (hk : ((k : Int) + gt x d) % gt P.orders d = 0) :
    gt (rMul P x (pw P z k)) d = 0 ∧ ∀ j, j < d → gt (rMul P x (pw P z k)) j = gt x j := by
  have hp := G.pw_T (Nat.le_of_lt hd) hz k
  have h := G.right (Nat.le_of_lt hd) hx hp
  refine ⟨?_, h.1⟩
  rw [h.2 hd, G.pw_at hd hz, hz1, Int.mul_one, Int.add_emod_emod, Int.add_comm]; exact hk

end

/-! ### a sequence as a list -/
end Go.Proofs.Ytljdneobfbimiaa
