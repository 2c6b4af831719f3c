/-
  Group primes, exponent vectors, orders, unit vectors.
-/
import Derived.Test.YtdfjgpioaomceaaEqs
namespace Go.Proofs.Ytdfjgpioaomceaa
open Go.RowKit

def primeB (n : Int) : Bool := decide (n = 2 ∨ n = 3 ∨ n = 5 ∨ n = 7)

set_option maxHeartbeats 400000 in
theorem isGroupPrime_ok (n : Int) (w : World) : Calls Try.prog 58 #[.int .i64 n] w fun e w' => e = .returned (.bool (primeB n)) ∧ w = w' := by
  by_cases h2 : n = 2
  · subst h2; go_enter Try.func58, Try.ntmps58; go_wp2; go_ret; exact ⟨ret_b (by decide), rfl⟩
  by_cases h3 : n = 3
  · subst h3; go_enter Try.func58, Try.ntmps58; go_wp2; go_ret; exact ⟨ret_b (by decide), rfl⟩
  by_cases h5 : n = 5
  · subst h5; go_enter Try.func58, Try.ntmps58; go_wp2; go_ret; exact ⟨ret_b (by decide), rfl⟩
  by_cases h7 : n = 7
  · subst h7; go_enter Try.func58, Try.ntmps58; go_wp2; go_ret; exact ⟨ret_b (by decide), rfl⟩
  have e2 : (n == 2) = false := by simp [h2]
  have e3 : (n == 3) = false := by simp [h3]
  have e5 : (n == 5) = false := by simp [h5]
  have e7 : (n == 7) = false := by simp [h7]
  have hf : primeB n = false := by simp [primeB, h2, h3, h5, h7]
  have HF := Lib.hid hf
  clear h2 h3 h5 h7 hf
  go_enter Try.func58, Try.ntmps58
  go_wp2; go_ret; exact ⟨ret_b HF.out.symm, rfl⟩

set_option maxHeartbeats 400000 in
theorem l01Prime_ok (n : Int) (w : World) : Calls Try.prog 52 #[.int .i64 n] w fun e w' => e = .returned (.bool (primeB n)) ∧ w = w' := by
  by_cases h2 : n = 2
  · subst h2; go_enter Try.func52, Try.ntmps52; go_wp2; go_ret; exact ⟨ret_b (by decide), rfl⟩
  by_cases h3 : n = 3
  · subst h3; go_enter Try.func52, Try.ntmps52; go_wp2; go_ret; exact ⟨ret_b (by decide), rfl⟩
  by_cases h5 : n = 5
  · subst h5; go_enter Try.func52, Try.ntmps52; go_wp2; go_ret; exact ⟨ret_b (by decide), rfl⟩
  by_cases h7 : n = 7
  · subst h7; go_enter Try.func52, Try.ntmps52; go_wp2; go_ret; exact ⟨ret_b (by decide), rfl⟩
  have e2 : (n == 2) = false := by simp [h2]
  have e3 : (n == 3) = false := by simp [h3]
  have e5 : (n == 5) = false := by simp [h5]
  have e7 : (n == 7) = false := by simp [h7]
  have hf : primeB n = false := by simp [primeB, h2, h3, h5, h7]
  have HF := Lib.hid hf
  clear h2 h3 h5 h7 hf
  go_enter Try.func52, Try.ntmps52
  go_wp2; go_ret; exact ⟨ret_b HF.out.symm, rfl⟩

def unitV (n k : Nat) : List Int := (List.replicate n 0).set k 1

set_option maxHeartbeats 400000 in
theorem unitVector_ok (n k : Nat) (w : World) (hk : k < n) (hn : n ≤ 1000) : Calls Try.prog 62 #[.int .i64 n, .int .i64 k] w (Ret w fun w' v => Own w.heap.size w' v (unitV n k)) := by
  go_enter Try.func62, Try.ntmps62
  go_wp2_with (at_make; refine wp_make_ints rfl _ _ rfl w.heap.size n w.heap.size rfl _ rfl rfl rfl (by omega) (Nat.le_refl _) ?_; intro w1 ho1 hg1 _; have hc1 := ho1.cell k (by simpa using hk); have hf1 := ho1.frozen k)
  go_ret
  obtain ⟨h1, h2⟩ := ho1.store k 1
  exact ⟨_, rfl, grown_own hg1 h2 (fun j hj hlt => by cases hj; omega), h1⟩

set_option maxHeartbeats 400000 in
theorem l07Unit_ok (n k : Nat) (w : World) (hk : k < n) (hn : n ≤ 1000) : Calls Try.prog 92 #[.int .i64 n, .int .i64 k] w (Ret w fun w' v => Own w.heap.size w' v (unitV n k)) := by
  go_enter Try.func92, Try.ntmps92
  go_wp2_with (at_make; refine wp_make_ints rfl _ _ rfl w.heap.size n w.heap.size rfl _ rfl rfl rfl (by omega) (Nat.le_refl _) ?_; intro w1 ho1 hg1 _; have hc1 := ho1.cell k (by simpa using hk); have hf1 := ho1.frozen k)
  go_ret
  obtain ⟨h1, h2⟩ := ho1.store k 1
  exact ⟨_, rfl, grown_own hg1 h2 (fun j hj hlt => by cases hj; omega), h1⟩

set_option maxHeartbeats 400000 in
theorem l01Own_ok (w : World) (v : Value) (l : List Int) (S : Nat → Prop) (hv : Ints S w v l) (hl : l.length ≤ 1048576) :
    Calls Try.prog 93 #[v] w (Ret w fun w' r => Own w.heap.size w' r l) := by
  obtain ⟨a, cap, rfl, _, _⟩ := hv.shape
  go_enter Try.func93, Try.ntmps93
  go_wp2_with (at_builtin; refine wp_app_ints rfl _ _ rfl w.heap.size _ [] rfl (World.ownsRow_lit w #[] 0 (Nat.le_refl _) (by decide) rfl) _ l rfl S (hv.ext (World.grownBy_alloc _ _ _)) (by simp; omega) (by simp) ?_; intro v' w1 ho1 hg1 hn1)
  go_ret
  exact ⟨_, rfl, grown_own (World.grownBy_alloc _ _ _) hg1 (fun j hj hlt => by have := own_blk hj; omega), ho1⟩

end Go.Proofs.Ytdfjgpioaomceaa
