/-
  The whole group's sequence; the intersection of a list of subgroups.
-/
import Derived.Test.YtdklekdpdbjfiaaGreatSMaxLaw
import Derived.Test.YtdklekdpdbjfiaaGreatK5
import Derived.Test.YtdklekdpdbjfiaaGreatK6
namespace Go.Proofs.YtdklekdpdbjfiaaGreat
open Go.RowKit

section
variable {P : Pr} (G : Grp P)
include G
theorem Grp.red_all : Red P (Vec P.orders) (fun d => unitV P.orders.length d) where
  sub := G.sub_all
  mem d hd _ := ⟨unitV_vec G.v d, T.unit G.v (Nat.le_refl _) hd, by rw [gt_unit _ _ _ hd, if_pos rfl]⟩
  piv x hx d hd hT h0 := by
    intro e
    have : (unitV P.orders.length d).length = 0 := by rw [e]; rfl
    rw [(unitV_vec G.v d).1] at this
    omega
  red d e hde he _ _ := by rw [gt_unit _ _ _ he, if_neg (by omega)]
theorem Grp.cseq_all : cseq P (Vec P.orders) = gensOf P.orders.length := by
  rw [G.cseq_red G.red_all]
  unfold seqOf gensOf
  have : ∀ l : List Nat, (∀ d ∈ l, d < P.orders.length) → l.filterMap (fun d => if unitV P.orders.length d = [] then none else some (unitV P.orders.length d)) = l.map (fun k : Nat => unitV P.orders.length k) := by
    intro l
    induction l with
    | nil => intro _; rfl
    | cons a l ih =>
      intro h
      have hne : ¬ unitV P.orders.length a = [] := fun e => by
        have h1 : (unitV P.orders.length a).length = 0 := by rw [e]; rfl
        rw [(unitV_vec G.v a).1] at h1
        have := h a (List.mem_cons_self ..)
        omega
      rw [List.filterMap_cons, if_neg hne, List.map_cons, ih (fun d hd => h d (List.mem_cons_of_mem _ hd))]
  exact this _ (fun d hd => List.mem_range.1 hd)
end

end Go.Proofs.YtdklekdpdbjfiaaGreat
