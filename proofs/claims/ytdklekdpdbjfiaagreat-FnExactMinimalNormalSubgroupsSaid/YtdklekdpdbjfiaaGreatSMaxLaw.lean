/-
  The maximal subgroups, by the masks.
-/
import Derived.Test.YtdklekdpdbjfiaaGreatK9
namespace Go.Proofs.YtdklekdpdbjfiaaGreat
open Go.RowKit

/-- the program's test -/
theorem andNot_zero (a b : Nat) (ha : a < 2 ^ 64) (hb : b < 2 ^ 64) : (bits .andNot .u64 (a : Int) (b : Int) == 0) = inM a b := by
  have ha' : a < 18446744073709551616 := ha
  have hb' : b < 18446744073709551616 := hb
  rw [u64_andNot_nat a b ha' hb']
  have e : 18446744073709551615 - b = 2 ^ 64 - (b + 1) := by
    have : (2 : Nat) ^ 64 = 18446744073709551616 := rfl
    omega
  have key : (a &&& (18446744073709551615 - b) = 0) ↔ (a &&& b = a) := by
    rw [e]
    constructor
    · intro h
      apply Nat.eq_of_testBit_eq
      intro t
      have h1 := congrArg (fun z => Nat.testBit z t) h
      simp only [Nat.testBit_and, Nat.zero_testBit, Nat.testBit_two_pow_sub_succ hb] at h1
      rw [Nat.testBit_and]
      by_cases ht : t < 64
      · simp only [ht, decide_true, Bool.true_and] at h1
        cases h2 : a.testBit t <;> cases h3 : b.testBit t <;> simp_all
      · have : a.testBit t = false := Nat.testBit_lt_two_pow (Nat.lt_of_lt_of_le ha (Nat.pow_le_pow_right (by decide) (by omega)))
        rw [this]; rfl
    · intro h
      apply Nat.eq_of_testBit_eq
      intro t
      have h1 := congrArg (fun z => Nat.testBit z t) h
      simp only [Nat.testBit_and, Nat.zero_testBit, Nat.testBit_two_pow_sub_succ hb] at h1 ⊢
      cases h2 : a.testBit t <;> cases h3 : b.testBit t <;> simp_all
  unfold inM
  obtain ⟨z, hz⟩ : ∃ z, z = a &&& (18446744073709551615 - b) := ⟨_, rfl⟩
  rw [← hz] at key ⊢
  by_cases h : z = 0
  · rw [decide_eq_true (key.1 h), h]; rfl
  · rw [decide_eq_false (fun hh => h (key.2 hh))]
    have : ¬ ((z : Nat) : Int) = 0 := by omega
    simpa using this

end Go.Proofs.YtdklekdpdbjfiaaGreat
