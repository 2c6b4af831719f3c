/-
  Plain: the representatives of the double cosets, in the order of the elements' numbers.
-/
import Derived.Test.YtchbegeklckgnaaGreatSTwo
namespace Go.Proofs.YtchbegeklckgnaaGreat

/-- the number stands in one of the double cosets of the elements that are chosen -/
def dcSeen (P : Pr) (H K : List Int → Prop) (c : List (List Int)) (a : Int) : Prop := ∃ x ∈ c, ∃ v u, H v ∧ K u ∧ a = num P (rMul P (rMul P v x) u)

open Classical in
noncomputable def dcTo (P : Pr) (H K : List Int → Prop) : Nat → List (List Int)
  | 0 => []
  | k + 1 => if dcSeen P H K (dcTo P H K k) k then dcTo P H K k else dcTo P H K k ++ [elAt P k]

theorem dcTo_seen {P : Pr} {H K : List Int → Prop} {k : Nat} (h : dcSeen P H K (dcTo P H K k) k) : dcTo P H K (k + 1) = dcTo P H K k := by
  rw [dcTo, if_pos h]
theorem dcTo_new {P : Pr} {H K : List Int → Prop} {k : Nat} (h : ¬ dcSeen P H K (dcTo P H K k) k) : dcTo P H K (k + 1) = dcTo P H K k ++ [elAt P k] := by
  rw [dcTo, if_neg h]

theorem dcTo_len (P : Pr) (H K : List Int → Prop) (k : Nat) : (dcTo P H K k).length ≤ k := by
  induction k with
  | zero => simp [dcTo]
  | succ k ih =>
    by_cases h : dcSeen P H K (dcTo P H K k) k
    · rw [dcTo_seen h]; omega
    · rw [dcTo_new h]; simp; exact ih

theorem dcSeen_app {P : Pr} {H K : List Int → Prop} {c : List (List Int)} {x : List Int} {a : Int} : dcSeen P H K (c ++ [x]) a ↔ dcSeen P H K c a ∨ dcSeen P H K [x] a := by
  constructor
  · rintro ⟨y, hy, h⟩
    rcases List.mem_append.1 hy with h1 | h1
    · exact Or.inl ⟨y, h1, h⟩
    · exact Or.inr ⟨y, h1, h⟩
  · rintro (⟨y, hy, h⟩ | ⟨y, hy, h⟩)
    · exact ⟨y, List.mem_append.2 (Or.inl hy), h⟩
    · exact ⟨y, List.mem_append.2 (Or.inr hy), h⟩

/-- the numbers that one row of products marks, the last first -/
def innM (P : Pr) (y : List Int) (B : List (List Int)) : Nat → List Int
  | 0 => []
  | j + 1 => num P (rMul P y (gt B j)) :: innM P y B j
/-- the numbers that one chosen element marks -/
def rowM (P : Pr) (A B : List (List Int)) (x : List Int) : Nat → List Int
  | 0 => []
  | i + 1 => innM P (rMul P (gt A i) x) B B.length ++ rowM P A B x i
open Classical in
/-- all numbers that are marked behind k elements -/
noncomputable def dcM (P : Pr) (H K : List Int → Prop) : Nat → List Int
  | 0 => []
  | k + 1 => if dcSeen P H K (dcTo P H K k) k then dcM P H K k else rowM P (elemsIn P H) (elemsIn P K) (elAt P k) (elemsIn P H).length ++ dcM P H K k

theorem dcM_seen {P : Pr} {H K : List Int → Prop} {k : Nat} (h : dcSeen P H K (dcTo P H K k) k) : dcM P H K (k + 1) = dcM P H K k := by
  rw [dcM, if_pos h]
theorem dcM_new {P : Pr} {H K : List Int → Prop} {k : Nat} (h : ¬ dcSeen P H K (dcTo P H K k) k) : dcM P H K (k + 1) = rowM P (elemsIn P H) (elemsIn P K) (elAt P k) (elemsIn P H).length ++ dcM P H K k := by
  rw [dcM, if_neg h]

theorem innM_len (P : Pr) (y : List Int) (B : List (List Int)) (j : Nat) : (innM P y B j).length = j := by
  induction j with
  | zero => rfl
  | succ j ih => rw [innM, List.length_cons, ih]
theorem rowM_len (P : Pr) (A B : List (List Int)) (x : List Int) (i : Nat) : (rowM P A B x i).length = i * B.length := by
  induction i with
  | zero => simp [rowM]
  | succ i ih => rw [rowM, List.length_append, ih, innM_len, Nat.succ_mul, Nat.add_comm]

theorem innM_mem {P : Pr} {y : List Int} {B : List (List Int)} {j : Nat} {a : Int} : a ∈ innM P y B j ↔ ∃ t, t < j ∧ a = num P (rMul P y (gt B t)) := by
  induction j with
  | zero => simp [innM]
  | succ j ih =>
    rw [innM, List.mem_cons, ih]
    constructor
    · rintro (h | ⟨t, ht, h⟩)
      · exact ⟨j, by omega, h⟩
      · exact ⟨t, by omega, h⟩
    · rintro ⟨t, ht, h⟩
      rcases Nat.lt_succ_iff_lt_or_eq.1 ht with h1 | h1
      · exact Or.inr ⟨t, h1, h⟩
      · exact Or.inl (h1 ▸ h)
theorem rowM_mem {P : Pr} {A B : List (List Int)} {x : List Int} {i : Nat} {a : Int} : a ∈ rowM P A B x i ↔ ∃ s, s < i ∧ ∃ t, t < B.length ∧ a = num P (rMul P (rMul P (gt A s) x) (gt B t)) := by
  induction i with
  | zero => simp [rowM]
  | succ i ih =>
    rw [rowM, List.mem_append, ih, innM_mem]
    constructor
    · rintro (⟨t, ht, h⟩ | ⟨s, hs, h⟩)
      · exact ⟨i, by omega, t, ht, h⟩
      · exact ⟨s, by omega, h⟩
    · rintro ⟨s, hs, h⟩
      rcases Nat.lt_succ_iff_lt_or_eq.1 hs with h1 | h1
      · exact Or.inr ⟨s, h1, h⟩
      · exact Or.inl (h1 ▸ h)

section
variable {P : Pr} (G : Grp P)
include G

theorem Grp.rowM_seen {H K : List Int → Prop} (S : Sub P H) (R : Sub P K) {x : List Int} {a : Int} : a ∈ rowM P (elemsIn P H) (elemsIn P K) x (elemsIn P H).length ↔ dcSeen P H K [x] a := by
  rw [rowM_mem]
  constructor
  · rintro ⟨s, hs, t, ht, h⟩
    exact ⟨x, by simp, gt (elemsIn P H) s, gt (elemsIn P K) t, (elemsIn_mem G.v S.vec _).1 (gtMem hs), (elemsIn_mem G.v R.vec _).1 (gtMem ht), h⟩
  · rintro ⟨y, hy, v, u, hv, hu, h⟩
    have hyx : y = x := by simpa using hy
    subst hyx
    obtain ⟨s, hs, rfl⟩ := mem_gt ((elemsIn_mem G.v S.vec v).2 hv)
    obtain ⟨t, ht, rfl⟩ := mem_gt ((elemsIn_mem G.v R.vec u).2 hu)
    exact ⟨s, hs, t, ht, h⟩

theorem Grp.dcM_mem {H K : List Int → Prop} (S : Sub P H) (R : Sub P K) (k : Nat) (a : Int) : a ∈ dcM P H K k ↔ dcSeen P H K (dcTo P H K k) a := by
  induction k with
  | zero => simp [dcM, dcTo, dcSeen]
  | succ k ih =>
    by_cases h : dcSeen P H K (dcTo P H K k) k
    · rw [dcM_seen h, dcTo_seen h, ih]
    · rw [dcM_new h, dcTo_new h, dcSeen_app, List.mem_append, ih, G.rowM_seen S R]
      exact Or.comm

omit G in
theorem dcM_len {H K : List Int → Prop} (k : Nat) : (dcM P H K k).length ≤ k * ((elemsIn P H).length * (elemsIn P K).length) := by
  induction k with
  | zero => simp [dcM]
  | succ k ih =>
    rw [Nat.succ_mul]
    by_cases h : dcSeen P H K (dcTo P H K k) k
    · rw [dcM_seen h]; omega
    · rw [dcM_new h, List.length_append, rowM_len]; omega

end

end Go.Proofs.YtchbegeklckgnaaGreat
