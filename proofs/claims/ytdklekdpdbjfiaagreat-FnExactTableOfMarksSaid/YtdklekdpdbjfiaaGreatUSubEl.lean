/-
  SubgroupElements on both sides.
-/
import Derived.Test.YtdklekdpdbjfiaaGreatM8
namespace Go.Proofs.YtdklekdpdbjfiaaGreat
open Go.RowKit
theorem sz_bound {α : Type} [Inhabited α] (sz : α → Nat) (xs : List α) (b : Nat) (h : ∀ x ∈ xs, sz x ≤ b) (k : Nat) (hk : k ≤ xs.length) : szTo sz xs k ≤ b * k := by
 induction k with
 | zero => simp [szTo]
 | succ k ih =>
  have h1 := ih (by omega)
  have h2 := h _ (gt_mem (l := xs) (i := k) (by omega))
  simp only [szTo, Nat.mul_succ]; omega
end Go.Proofs.YtdklekdpdbjfiaaGreat
