/-
  Small functions of the program, the reference and the laws: ranges, zero vectors, equality of lists, exponent vectors.
-/
import Derived.Test.YtdfjgpioaomceaaLib1
namespace Go.Proofs.Ytdfjgpioaomceaa
open Go.RowKit

def inB (a lo hi : Int) : Bool := decide (lo ≤ a) && decide (a ≤ hi)

theorem inB_true {a lo hi : Int} : inB a lo hi = true ↔ lo ≤ a ∧ a ≤ hi := by simp [inB]
theorem inB_false {a lo hi : Int} : inB a lo hi = false ↔ ¬ (lo ≤ a ∧ a ≤ hi) := by rw [← inB_true]; simp

/-- p holds of all indices below n -/
def allB (n : Nat) (p : Nat → Bool) : Bool := (List.range n).all p

theorem allB_true {n : Nat} {p : Nat → Bool} : allB n p = true ↔ ∀ i, i < n → p i = true := by simp [allB]
theorem allB_false {n : Nat} {p : Nat → Bool} {i : Nat} (h : i < n) (hp : p i = false) : allB n p = false := by
  cases h2 : allB n p with
  | false => rfl
  | true => rw [allB_true] at h2; rw [h2 i h] at hp; cases hp

theorem ret_b {a b : Bool} (h : a = b) : Ending.returned (.bool a) = .returned (.bool b) := by rw [h]
theorem ret_i {k : IntKind} {a b : Int} (h : a = b) : Ending.returned (.int k a) = .returned (.int k b) := by rw [h]

theorem ret_bool {w w' : World} {a b : Bool} (hw : Ext w w') (h : b = a) : Ret w (fun _ v => v = .bool a) (.returned (.bool b)) w' := ⟨_, rfl, hw, by rw [h]⟩

set_option maxHeartbeats 400000 in
theorem inside_ok (a b c : Int) (w : World) : Calls Try.prog 94 #[.int .i64 a, .int .i64 b, .int .i64 c] w fun e w' => e = .returned (.bool (inB a b c)) ∧ w = w' := by
  by_cases h : b ≤ a
  · by_cases h2 : a ≤ c
    · go_enter Try.func94, Try.ntmps94
      go_wp2
      go_ret
      exact ⟨by simp [inB, h, h2], rfl⟩
    · go_enter Try.func94, Try.ntmps94
      go_wp2
      go_ret
      exact ⟨by simp [inB, h2], rfl⟩
  · go_enter Try.func94, Try.ntmps94
    go_wp2
    go_ret
    exact ⟨ret_b (by simp [inB]; omega), rfl⟩

set_option maxHeartbeats 400000 in
theorem l01In_ok (a b c : Int) (w : World) : Calls Try.prog 67 #[.int .i64 a, .int .i64 b, .int .i64 c] w fun e w' => e = .returned (.bool (inB a b c)) ∧ w = w' := by
  by_cases h : b ≤ a
  · by_cases h2 : a ≤ c
    · go_enter Try.func67, Try.ntmps67
      go_wp2
      go_ret
      exact ⟨by simp [inB, h, h2], rfl⟩
    · go_enter Try.func67, Try.ntmps67
      go_wp2
      go_ret
      exact ⟨by simp [inB, h2], rfl⟩
  · go_enter Try.func67, Try.ntmps67
    go_wp2
    go_ret
    exact ⟨ret_b (by simp [inB]; omega), rfl⟩

def isZeroB (l : List Int) : Bool := allB l.length (fun i => gt l i == 0)

set_option maxHeartbeats 400000 in
theorem isZero_ok (v : Value) (l : List Int) (w : World) (S : Nat → Prop) (h : Ints S w v l) :
    Calls Try.prog 72 #[v] w fun e w' => e = .returned (.bool (isZeroB l)) ∧ w = w' := by
  obtain ⟨a, cap, rfl, _, _⟩ := h.shape
  go_enter Try.func72, Try.ntmps72
  go_wp2
  go_loop [7] (fun i => ∃ k : Nat, i = .int .i64 k ∧ k ≤ l.length ∧ ∀ i, i < k → (gt l i == 0) = true) (fun i => l.length - (intOf i).toNat)
  case atStart => exact ⟨0, rfl, by omega, fun i hi => by omega⟩
  case round =>
    obtain ⟨k, rfl, hk, hz⟩ := hrel
    have HZ := Lib.hid hz; clear hz
    by_cases hlt : k < l.length
    · obtain ⟨b, off, rfl, _, _, hc⟩ := Ints.at h k hlt
      by_cases hx : gt l k = 0
      · have hb : (gt l k != 0) = false := by simp [hx]
        have hx2 := Lib.hid hx; clear hx
        go_wp2
        go_round
        case rel => exact ⟨k + 1, by go_num, by omega, fun i hi => by
          rcases Nat.lt_or_ge i k with h1 | h1
          · exact HZ.out i h1
          · have : i = k := by omega
            rw [this, hx2.out]; rfl⟩
        case measure => simp [intOf]; omega
      · have hb : (gt l k != 0) = true := by simp [hx]
        go_wp2
        go_ret
        exact ⟨ret_b (by rw [isZeroB, allB_false hlt (by simpa using hx)]), rfl⟩
    · go_wp2
      go_ret
      exact ⟨ret_b (by rw [isZeroB, allB_true.2 (fun i hi => HZ.out i (by omega))]), rfl⟩

end Go.Proofs.Ytdfjgpioaomceaa
