/-
  The whole group's sequence; the intersection of a list of subgroups.
-/
import Derived.Test.YtigbpdaomgagiaaGreatSMaxLaw
import Derived.Test.YtigbpdaomgagiaaGreatK6
import Derived.Test.YtigbpdaomgagiaaGreatSCoreLaw
import Derived.Test.YtigbpdaomgagiaaGreatK5
namespace Go.Proofs.YtigbpdaomgagiaaGreat
open Go.RowKit

section
variable {P : Pr} (G : Grp P)
include G
theorem Grp.red_all : Red P (Vec P.orders) (fun d => unitV P.orders.length d) where
  sub := G.sub_all
  mem d hd _ := ⟨unitV_vec G.v d, T.unit G.v (Nat.le_refl _) hd, by rw [gt_unit _ _ _ hd, if_pos rfl]⟩
  piv x hx d hd hT h0 := by
    intro e
    have : (unitV P.orders.length d).length = 0 := by rw [e]; rfl
    rw [(unitV_vec G.v d).1] at this
    omega
  red d e hde he _ _ := by rw [gt_unit _ _ _ he, if_neg (by omega)]
theorem Grp.cseq_all : cseq P (Vec P.orders) = gensOf P.orders.length := by
  rw [G.cseq_red G.red_all]
  unfold seqOf gensOf
  have : ∀ l : List Nat, (∀ d ∈ l, d < P.orders.length) → l.filterMap (fun d => if unitV P.orders.length d = [] then none else some (unitV P.orders.length d)) = l.map (fun k : Nat => unitV P.orders.length k) := by
    intro l
    induction l with
    | nil => intro _; rfl
    | cons a l ih =>
      intro h
      have hne : ¬ unitV P.orders.length a = [] := fun e => by
        have h1 : (unitV P.orders.length a).length = 0 := by rw [e]; rfl
        rw [(unitV_vec G.v a).1] at h1
        have := h a (List.mem_cons_self ..)
        omega
      rw [List.filterMap_cons, if_neg hne, List.map_cons, ih (fun d hd => h d (List.mem_cons_of_mem _ hd))]
  exact this _ (fun d hd => List.mem_range.1 hd)
end

/-- the intersection of the group and the first i subgroups of a list -/
def frTo (P : Pr) (M : List (List (List Int))) : Nat → List Int → Prop
  | 0 => Vec P.orders
  | i + 1 => fun x => frTo P M i x ∧ genP P (fun z => z ∈ gt M i) x
theorem Grp.frTo_sub {P : Pr} (G : Grp P) {M : List (List (List Int))} (hM : ∀ u ∈ M, SubB P u) : ∀ i, i ≤ M.length → Sub P (frTo P M i)
  | 0, _ => G.sub_all
  | i + 1, h => Sub.and (Grp.frTo_sub G hM i (by omega)) (G.subB (hM _ (gt_mem (by omega))))

theorem maxL_sub {P : Pr} {L : List (List (List Int))} (hz : latC P = 0) (hL : LatL P L) : ∀ u ∈ maxL P, SubB P u := fun u hu => by
  rw [maxL_ok hz hL] at hu
  exact (hL.2 u).1 (maxTo_mem (Nat.le_refl _) u hu)

open Classical in
noncomputable def fratL (P : Pr) : List (List Int) := if latC P = 0 ∧ ∃ L, LatL P L then cseq P (frTo P (maxL P) (maxL P).length) else []
theorem fratL_ok {P : Pr} {L : List (List (List Int))} (h : latC P = 0) (hL : LatL P L) : fratL P = cseq P (frTo P (maxL P) (maxL P).length) := by
  unfold fratL; rw [if_pos ⟨h, L, hL⟩]
theorem fratL_no {P : Pr} (h : latC P ≠ 0) : fratL P = [] := by unfold fratL; rw [if_neg (fun hh => h hh.1)]
theorem fratL_bd (P : Pr) : (fratL P).length ≤ 6 ∧ ∀ x ∈ fratL P, x.length ≤ 6 := by
  by_cases h : latC P = 0 ∧ ∃ L, LatL P L
  · obtain ⟨hc, L, hL⟩ := h
    have G := grp_of_r (latC_zero hc).1
    have S := G.frTo_sub (maxL_sub hc hL) _ (Nat.le_refl _)
    rw [fratL_ok hc hL]
    have h1 := G.cseq_len S
    have h6 := G.v.n6
    exact ⟨by omega, fun x hx => by rw [(S.vec x ((G.seq_facts S).2.1 x hx)).1]; exact h6⟩
  · unfold fratL; rw [if_neg h]; simp
theorem fratL_len (P : Pr) : (fratL P).length ≤ 729 := by have := (fratL_bd P).1; omega
theorem fratL_tot (P : Pr) : tot2 (fratL P) ≤ 100000000 := by
  obtain ⟨h1, h2⟩ := fratL_bd P
  have := sz_bnd List.length (fratL P) 6 h2 _ (Nat.le_refl _)
  unfold tot2; omega

end Go.Proofs.YtigbpdaomgagiaaGreat
