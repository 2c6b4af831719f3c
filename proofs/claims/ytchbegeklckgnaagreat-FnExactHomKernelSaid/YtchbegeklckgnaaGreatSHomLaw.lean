/-
  Plain: relators, their values under images, homomorphisms and preimages.
-/
import Derived.Test.YtchbegeklckgnaaGreatK7
import Derived.Test.YtchbegeklckgnaaGreatK8
namespace Go.Proofs.YtchbegeklckgnaaGreat

/-- the word of the first k entries of a vector -/
def nWord (e : List Int) : Nat → List Int
  | 0 => []
  | k + 1 => nWord e k ++ List.replicate (gt e k).toNat ((k : Int) + 1)
def invWord (w : List Int) : List Int := (w.map (fun l => -l)).reverse
/-- all letters of a word stand for one of n generators -/
def WordN (n : Nat) (w : List Int) : Prop := ∀ l ∈ w, (1 ≤ l ∧ l ≤ n) ∨ (-(n : Int) ≤ l ∧ l ≤ -1)

theorem WordN.nil (n : Nat) : WordN n [] := fun l h => by cases h
theorem WordN.app {n : Nat} {a b : List Int} (h : WordN n a) (k : WordN n b) : WordN n (a ++ b) := fun l hl => (List.mem_append.1 hl).elim (h l) (k l)
theorem WordN.rep {n k : Nat} (m : Nat) (hk : k < n) : WordN n (List.replicate m ((k : Int) + 1)) := fun l hl => by
  have := (List.mem_replicate.1 hl).2; omega
theorem WordN.nWord {n : Nat} (e : List Int) : ∀ k, k ≤ n → WordN n (nWord e k)
  | 0, _ => WordN.nil n
  | k + 1, h => (WordN.nWord e k (by omega)).app (WordN.rep _ (by omega))
theorem WordN.inv {n : Nat} {w : List Int} (h : WordN n w) : WordN n (invWord w) := fun l hl => by
  unfold invWord at hl
  rw [List.mem_reverse, List.mem_map] at hl
  obtain ⟨a, ha, rfl⟩ := hl
  have := h a ha
  omega

theorem nWord_len {e : List Int} (h : ∀ i, gt e i ≤ 7) : ∀ k, (nWord e k).length ≤ 7 * k
  | 0 => by simp [nWord]
  | k + 1 => by
    have := nWord_len h k
    have := h k
    simp only [nWord, List.length_append, List.length_replicate]; omega
theorem invWord_len (w : List Int) : (invWord w).length = w.length := by unfold invWord; simp

/-- the relators of the first i powers -/
def relPow (P : Pr) (i : Nat) : List Int := List.replicate (gt P.orders i).toNat ((i : Int) + 1) ++ invWord (nWord (gt P.powers i) P.orders.length)
def relCon (P : Pr) (i k : Nat) : List Int := [-((i : Int) + 1), (i : Int) + k + 2, (i : Int) + 1] ++ invWord (nWord (gt (gt P.conj i) k) P.orders.length)
def relPs (P : Pr) : Nat → List (List Int)
  | 0 => []
  | k + 1 => relPs P k ++ [relPow P k]
/-- the relators of the first k conjugates of a row -/
def relCs (P : Pr) (i : Nat) : Nat → List (List Int)
  | 0 => []
  | k + 1 => relCs P i k ++ [relCon P i k]
def relTo (P : Pr) : Nat → List (List Int)
  | 0 => relPs P P.orders.length
  | i + 1 => relTo P i ++ relCs P i (gt P.conj i).length
def relsP (P : Pr) : List (List Int) := relTo P P.orders.length

theorem relPs_len (P : Pr) (k : Nat) : (relPs P k).length = k := by
  induction k with
  | zero => rfl
  | succ k ih => rw [relPs, List.length_append, ih]; rfl
theorem relCs_len (P : Pr) (i k : Nat) : (relCs P i k).length = k := by
  induction k with
  | zero => rfl
  | succ k ih => rw [relCs, List.length_append, ih]; rfl

/-- the value of the first k letters -/
def evalTo (Q : Pr) (Is : List (List Int)) (w : List Int) : Nat → List Int
  | 0 => zeros Q.orders.length
  | k + 1 => rMul Q (evalTo Q Is w k) (if gt w k < 0 then rInv Q (gt Is (-(gt w k) - 1).toNat) else gt Is ((gt w k) - 1).toNat)

/-- the element that a vector is mapped to, of its first k entries -/
def mapTo (Q : Pr) (Is : List (List Int)) (x : List Int) : Nat → List Int := prodR Q Is x

/-- a homomorphism -/
def HomB (P Q : Pr) (Is : List (List Int)) : Prop := rconsB P = true ∧ rconsB Q = true ∧ Is.length = P.orders.length ∧ (∀ x ∈ Is, Vec Q.orders x) ∧ ∀ w ∈ relsP P, evalTo Q Is w w.length = zeros Q.orders.length

/-- the elements that are mapped into a subgroup -/
def backP (P Q : Pr) (Is : List (List Int)) (H : List Int → Prop) (x : List Int) : Prop := Vec P.orders x ∧ H (prodR Q Is x Is.length)

section
variable {Q : Pr} (G : Grp Q)
include G

theorem Grp.eval_vec {Is : List (List Int)} {w : List Int} (h : ∀ x ∈ Is, Vec Q.orders x) (hw : WordN Is.length w) : ∀ k, k ≤ w.length → Vec Q.orders (evalTo Q Is w k) := by
  intro k
  induction k with
  | zero => intro _; exact G.oneV
  | succ k ih =>
    intro hk
    have hl := hw _ (gtMem (l := w) (i := k) (by omega))
    rw [evalTo]
    split
    · exact G.mulV (ih (by omega)) (G.invV (h _ (gtMem (by omega))))
    · exact G.mulV (ih (by omega)) (h _ (gtMem (by omega)))

omit G in
/-- the powers one factor at a time -/
theorem prodR_step {Is : List (List Int)} {x : List Int} {i : Nat} (hx : 0 ≤ gt x i) : prodR Q Is x (i + 1) = rMul Q (prodR Q Is x i) (pw Q (gt Is i) (gt x i).toNat) := by
  rw [prodR]; unfold pwZ; rw [if_neg (by omega)]

end

theorem relPow_word {P : Pr} {i : Nat} (hi : i < P.orders.length) : WordN P.orders.length (relPow P i) :=
  (WordN.rep _ hi).app (WordN.nWord _ _ (Nat.le_refl _)).inv
theorem relCon_word {P : Pr} {i k : Nat} (hi : i + k + 1 < P.orders.length) : WordN P.orders.length (relCon P i k) :=
  WordN.app (fun l hl => by simp at hl; omega) (WordN.nWord _ _ (Nat.le_refl _)).inv
theorem relPs_word {P : Pr} : ∀ k, k ≤ P.orders.length → ∀ w ∈ relPs P k, WordN P.orders.length w
  | 0, _, w, h => by cases h
  | k + 1, hk, w, h => by
    rcases List.mem_append.1 h with h1 | h1
    · exact relPs_word k (by omega) w h1
    · rw [List.mem_singleton.1 h1]; exact relPow_word (by omega)
theorem relCs_word {P : Pr} {i : Nat} : ∀ k, i + k < P.orders.length → ∀ w ∈ relCs P i k, WordN P.orders.length w
  | 0, _, w, h => by cases h
  | k + 1, hk, w, h => by
    rcases List.mem_append.1 h with h1 | h1
    · exact relCs_word k (by omega) w h1
    · rw [List.mem_singleton.1 h1]; exact relCon_word (by omega)

end Go.Proofs.YtchbegeklckgnaaGreat
