/-
  Plain: the entries of a list at the places with a property.
-/
import Derived.Test.YtdklekdpdbjfiaaGreatK9
namespace Go.Proofs.YtdklekdpdbjfiaaGreat
open Go.RowKit

open Classical in
noncomputable def flTo (Q : Nat → Prop) (L : List (List (List Int))) : Nat → List (List (List Int))
  | 0 => []
  | k + 1 => if Q k then flTo Q L k ++ [gt L k] else flTo Q L k
theorem flTo_yes {Q : Nat → Prop} {L : List (List (List Int))} {k : Nat} (h : Q k) : flTo Q L (k + 1) = flTo Q L k ++ [gt L k] := by rw [flTo, if_pos h]
theorem flTo_no {Q : Nat → Prop} {L : List (List (List Int))} {k : Nat} (h : ¬ Q k) : flTo Q L (k + 1) = flTo Q L k := by rw [flTo, if_neg h]
theorem flTo_len (Q : Nat → Prop) (L : List (List (List Int))) : ∀ k, (flTo Q L k).length ≤ k
  | 0 => Nat.le_refl _
  | k + 1 => by
    have := flTo_len Q L k
    unfold flTo
    split
    · rw [List.length_append, List.length_singleton]; omega
    · omega
theorem flTo_mem {Q : Nat → Prop} {L : List (List (List Int))} : ∀ {k : Nat}, k ≤ L.length → ∀ u ∈ flTo Q L k, u ∈ L
  | 0, _, u, h => by cases h
  | k + 1, hk, u, h => by
    unfold flTo at h
    split at h
    · rcases List.mem_append.1 h with h | h
      · exact flTo_mem (by omega) u h
      · rw [List.mem_singleton.1 h]; exact gt_mem (by omega)
    · exact flTo_mem (by omega) u h

end Go.Proofs.YtdklekdpdbjfiaaGreat
