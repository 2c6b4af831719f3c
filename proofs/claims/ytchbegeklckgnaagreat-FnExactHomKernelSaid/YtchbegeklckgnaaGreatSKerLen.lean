/-
  How long the answers of HomKernel and SubgroupPreimage are.
-/
import Derived.Test.YtchbegeklckgnaaGreatSHomKer
import Derived.Test.YtchbegeklckgnaaGreatK8
namespace Go.Proofs.YtchbegeklckgnaaGreat
open Go.RowKit

theorem cseq_small {P : Pr} (G : Grp P) {H : List Int → Prop} (S : Sub P H) : (cseq P H).length ≤ 6 ∧ ∀ x ∈ cseq P H, x.length ≤ 6 := by
  have h1 := G.cseq_len S
  have h2 := G.v.n6
  exact ⟨by omega, fun x hx => by rw [(S.vec x ((G.seq_facts S).2.1 x hx)).1]; exact h2⟩
theorem tot2_small {l : List (List Int)} (h : l.length ≤ 6 ∧ ∀ x ∈ l, x.length ≤ 6) : tot2 l ≤ 1000000 := by
  have := sz_bound List.length l 6 h.2 _ (Nat.le_refl _)
  unfold tot2; omega

theorem kerL_small (P Q : Pr) (Is : List (List Int)) : (kerL P Q Is).length ≤ 6 ∧ ∀ x ∈ kerL P Q Is, x.length ≤ 6 := by
  by_cases h : HomB P Q Is
  · rw [(ker_yes h).2]
    have G := grp_of_r h.1
    exact cseq_small G (G.genP_sub (fun y h => h.1))
  · rw [(ker_no h).2]; exact ⟨by simp, fun x hx => by cases hx⟩
theorem kerL_len (P Q : Pr) (Is : List (List Int)) : (kerL P Q Is).length ≤ 729 := by have := (kerL_small P Q Is).1; omega
theorem kerL_tot (P Q : Pr) (Is : List (List Int)) : tot2 (kerL P Q Is) ≤ 1000000 := tot2_small (kerL_small P Q Is)

theorem preL_small (P Q : Pr) (Is V : List (List Int)) : (preL P Q Is V).length ≤ 6 ∧ ∀ x ∈ preL P Q Is V, x.length ≤ 6 := by
  by_cases h : HomB P Q Is ∧ SubB Q V
  · rw [(pre_yes h).2]
    have G := grp_of_r h.1.1
    exact cseq_small G (G.genP_sub (fun y h => h.1))
  · rw [(pre_no h).2]; exact ⟨by simp, fun x hx => by cases hx⟩
theorem preL_len (P Q : Pr) (Is V : List (List Int)) : (preL P Q Is V).length ≤ 729 := by have := (preL_small P Q Is V).1; omega
theorem preL_tot (P Q : Pr) (Is V : List (List Int)) : tot2 (preL P Q Is V) ≤ 1000000 := tot2_small (preL_small P Q Is V)

end Go.Proofs.YtchbegeklckgnaaGreat
