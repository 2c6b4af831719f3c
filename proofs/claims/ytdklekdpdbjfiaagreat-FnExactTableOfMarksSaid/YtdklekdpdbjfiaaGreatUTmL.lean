/-
  Plain: the table of marks.
-/
import Derived.Test.YtdklekdpdbjfiaaGreatM9
import Derived.Test.YtdklekdpdbjfiaaGreatUSubEl
namespace Go.Proofs.YtdklekdpdbjfiaaGreat
open Go.RowKit
noncomputable def tmR (P : Pr) (u : List (List Int)) (F : List (List (List Int))) : List Int := F.map (fun v => ((fixN P u v : Nat) : Int))
open Classical in
noncomputable def tmC (P : Pr) : Int := if latC P = 0 ∧ 24 < (clsF P).length then 3 else latC P
open Classical in
noncomputable def tmL (P : Pr) : List (List Int) := if latC P = 0 ∧ ¬ 24 < (clsF P).length then (clsF P).map (fun u => tmR P u (clsF P)) else []
theorem tm_no {P : Pr} (h : latC P ≠ 0) : tmC P = latC P ∧ tmL P = [] := by
 unfold tmC tmL; rw [if_neg (fun e => h e.1), if_neg (fun e => h e.1)]; exact ⟨rfl, rfl⟩
theorem tm_big {P : Pr} (h : latC P = 0) (h2 : 24 < (clsF P).length) : tmC P = 3 ∧ tmL P = [] := by
 unfold tmC tmL; rw [if_pos ⟨h, h2⟩, if_neg (fun e => e.2 h2)]; exact ⟨rfl, rfl⟩
theorem tm_ok {P : Pr} (h : latC P = 0) (h2 : ¬ 24 < (clsF P).length) : tmC P = 0 ∧ tmL P = (clsF P).map (fun u => tmR P u (clsF P)) := by
 unfold tmC tmL; rw [if_neg (fun e => h2 e.2), if_pos ⟨h, h2⟩]; exact ⟨h, rfl⟩
theorem tmR_len (P : Pr) (u : List (List Int)) (F : List (List (List Int))) : (tmR P u F).length = F.length := by unfold tmR; rw [List.length_map]
theorem tmR_step (P : Pr) (u : List (List Int)) (F : List (List (List Int))) (j : Nat) (h : j < F.length) : (tmR P u F).take (j + 1) = (tmR P u F).take j ++ [((fixN P u (gt F j) : Nat) : Int)] := by
 rw [take_succ_gt _ j (by rw [tmR_len]; exact h)]
 unfold tmR
 rw [gt_map _ _ _ h]
theorem tmL_step (P : Pr) (F : List (List (List Int))) (i : Nat) (h : i < F.length) : (F.map (fun u => tmR P u F)).take (i + 1) = (F.map (fun u => tmR P u F)).take i ++ [tmR P (gt F i) F] := by
 rw [take_succ_gt _ i (by rw [List.length_map]; exact h), gt_map _ _ _ h]
theorem tmL_len (P : Pr) : (tmL P).length ≤ 729 := by
 by_cases h : latC P = 0
 ·by_cases h2 : 24 < (clsF P).length
  ·rw [(tm_big h h2).2]; simp
  ·rw [(tm_ok h h2).2, List.length_map]; omega
 ·rw [(tm_no h).2]; simp
theorem tmL_tot (P : Pr) : tot2 (tmL P) ≤ 1000000 := by
 have hl := tmL_len P
 have hb : ∀ x ∈ tmL P, x.length ≤ 24 := by
  intro x hx
  by_cases h : latC P = 0
  ·by_cases h2 : 24 < (clsF P).length
   ·rw [(tm_big h h2).2] at hx; cases hx
   ·rw [(tm_ok h h2).2] at hx
    obtain ⟨u, _, rfl⟩ := List.mem_map.1 hx
    rw [tmR_len]; omega
  ·rw [(tm_no h).2] at hx; cases hx
 have := sz_bound List.length (tmL P) 24 hb _ (Nat.le_refl _)
 unfold tot2; omega
theorem clsF_sub {P : Pr} (h : latC P = 0) {L : List (List (List Int))} (hL : LatL P L) : ∀ u ∈ clsF P, SubB P u := by
 intro u hu
 rw [(cls_ok h hL).1] at hu
 exact (hL.2 u).1 (clS_mem P (Nat.le_refl _) u hu)
end Go.Proofs.YtdklekdpdbjfiaaGreat
