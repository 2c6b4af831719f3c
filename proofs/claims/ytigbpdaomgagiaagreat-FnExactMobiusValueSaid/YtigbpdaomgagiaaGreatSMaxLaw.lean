/-
  The maximal subgroups, by the masks.
-/
import Derived.Test.YtigbpdaomgagiaaGreatK10
namespace Go.Proofs.YtigbpdaomgagiaaGreat
open Go.RowKit

/-- no later mask below place k, but the last one's, holds the one at i -/
def freeTo (ms : List Nat) (i k : Nat) : Prop := ∀ j, i < j → j < k → inM (gt ms i) (gt ms j) = false
def maxP (ms : List Nat) (i : Nat) : Prop := i + 1 < ms.length ∧ freeTo ms i (ms.length - 1)
open Classical in
noncomputable def maxTo (L : List (List (List Int))) (ms : List Nat) : Nat → List (List (List Int))
  | 0 => []
  | k + 1 => if maxP ms k then maxTo L ms k ++ [gt L k] else maxTo L ms k
theorem maxTo_len (L : List (List (List Int))) (ms : List Nat) : ∀ k, (maxTo L ms k).length ≤ k
  | 0 => by simp [maxTo]
  | k + 1 => by
    have := maxTo_len L ms k
    unfold maxTo
    split
    · rw [List.length_append, List.length_singleton]; omega
    · omega
theorem maxTo_yes {L : List (List (List Int))} {ms : List Nat} {k : Nat} (h : maxP ms k) : maxTo L ms (k + 1) = maxTo L ms k ++ [gt L k] := by
  rw [maxTo, if_pos h]
theorem maxTo_no {L : List (List (List Int))} {ms : List Nat} {k : Nat} (h : ¬ maxP ms k) : maxTo L ms (k + 1) = maxTo L ms k := by
  rw [maxTo, if_neg h]
theorem maxTo_mem {L : List (List (List Int))} {ms : List Nat} : ∀ {k : Nat}, k ≤ L.length → ∀ u ∈ maxTo L ms k, u ∈ L
  | 0, _, u, h => by cases h
  | k + 1, hk, u, h => by
    unfold maxTo at h
    split at h
    · rcases List.mem_append.1 h with h | h
      · exact maxTo_mem (by omega) u h
      · rw [List.mem_singleton.1 h]; exact gt_mem (by omega)
    · exact maxTo_mem (by omega) u h
/-- the last one is no maximal one -/
theorem maxTo_last (L : List (List (List Int))) (ms : List Nat) {n : Nat} (hn : ms.length = n + 1) : maxTo L ms (n + 1) = maxTo L ms n :=
  maxTo_no (fun h => by have := h.1; omega)

theorem freeTo_zero (ms : List Nat) (i : Nat) : freeTo ms i (i + 1) := fun j h1 h2 => by omega
theorem freeTo_step {ms : List Nat} {i k : Nat} (hik : i < k) : freeTo ms i (k + 1) ↔ freeTo ms i k ∧ inM (gt ms i) (gt ms k) = false :=
  ⟨fun h => ⟨fun j a b => h j a (by omega), h k hik (by omega)⟩, fun ⟨h1, h2⟩ j a b => by
    rcases Nat.lt_succ_iff_lt_or_eq.1 b with c | c
    · exact h1 j a c
    · subst c; exact h2⟩

/-- the program's test -/
theorem andNot_zero (a b : Nat) (ha : a < 2 ^ 64) (hb : b < 2 ^ 64) : (bits .andNot .u64 (a : Int) (b : Int) == 0) = inM a b := by
  have ha' : a < 18446744073709551616 := ha
  have hb' : b < 18446744073709551616 := hb
  rw [u64_andNot_nat a b ha' hb']
  have e : 18446744073709551615 - b = 2 ^ 64 - (b + 1) := by
    have : (2 : Nat) ^ 64 = 18446744073709551616 := rfl
    omega
  have key : (a &&& (18446744073709551615 - b) = 0) ↔ (a &&& b = a) := by
    rw [e]
    constructor
    · intro h
      apply Nat.eq_of_testBit_eq
      intro t
      have h1 := congrArg (fun z => Nat.testBit z t) h
      simp only [Nat.testBit_and, Nat.zero_testBit, Nat.testBit_two_pow_sub_succ hb] at h1
      rw [Nat.testBit_and]
      by_cases ht : t < 64
      · simp only [ht, decide_true, Bool.true_and] at h1
        cases h2 : a.testBit t <;> cases h3 : b.testBit t <;> simp_all
      · have : a.testBit t = false := Nat.testBit_lt_two_pow (Nat.lt_of_lt_of_le ha (Nat.pow_le_pow_right (by decide) (by omega)))
        rw [this]; rfl
    · intro h
      apply Nat.eq_of_testBit_eq
      intro t
      have h1 := congrArg (fun z => Nat.testBit z t) h
      simp only [Nat.testBit_and, Nat.zero_testBit, Nat.testBit_two_pow_sub_succ hb] at h1 ⊢
      cases h2 : a.testBit t <;> cases h3 : b.testBit t <;> simp_all
  unfold inM
  obtain ⟨z, hz⟩ : ∃ z, z = a &&& (18446744073709551615 - b) := ⟨_, rfl⟩
  rw [← hz] at key ⊢
  by_cases h : z = 0
  · rw [decide_eq_true (key.1 h), h]; rfl
  · rw [decide_eq_false (fun hh => h (key.2 hh))]
    have : ¬ ((z : Nat) : Int) = 0 := by omega
    simpa using this

open Classical in
noncomputable def maxL (P : Pr) : List (List (List Int)) := if latC P = 0 ∧ ∃ L, LatL P L then maxTo (latL P) ((latL P).map (mskU P)) (latL P).length else []
theorem maxL_ok {P : Pr} {L : List (List (List Int))} (h : latC P = 0) (hL : LatL P L) : maxL P = maxTo L (L.map (mskU P)) L.length := by
  unfold maxL; rw [if_pos ⟨h, L, hL⟩, latL_eq hL]
theorem maxL_no {P : Pr} (h : latC P ≠ 0) : maxL P = [] := by unfold maxL; rw [if_neg (fun hh => h hh.1)]
theorem maxL_bd (P : Pr) : (maxL P).length ≤ 17408 ∧ ∀ u ∈ maxL P, u.length ≤ 6 ∧ ∀ x ∈ u, x.length ≤ 6 := by
  by_cases h : latC P = 0 ∧ ∃ L, LatL P L
  · obtain ⟨hc, L, hL⟩ := h
    have G := grp_of_r (latC_zero hc).1
    rw [maxL_ok hc hL]
    have h1 := maxTo_len L (L.map (mskU P)) L.length
    have h2 := G.lat_len (latC_zero hc).2 hL
    exact ⟨by omega, fun u hu => G.lat_row hL u (maxTo_mem (Nat.le_refl _) u hu)⟩
  · unfold maxL; rw [if_neg h]; simp
theorem maxL_len (P : Pr) : (maxL P).length ≤ 17408 := (maxL_bd P).1
theorem maxL_tot (P : Pr) : tot3 (maxL P) ≤ 100000000 := part_tot (maxL_bd P).1 (maxL_bd P).2

end Go.Proofs.YtigbpdaomgagiaaGreat
