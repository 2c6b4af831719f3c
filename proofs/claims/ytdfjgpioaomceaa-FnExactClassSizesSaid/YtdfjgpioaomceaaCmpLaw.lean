/-
  The order of slices.Compare is a total order on lists of integers. Plain.
-/
import Derived.Test.YtdfjgpioaomceaaFind
namespace Go.Proofs.Ytdfjgpioaomceaa
open Go.RowKit

theorem cmpI_cases (a b : Int) : (cmpI a b = -1 ∧ a < b) ∨ (cmpI a b = 0 ∧ a = b) ∨ (cmpI a b = 1 ∧ b < a) := by
  unfold cmpI
  by_cases h : a < b
  · simp [h]
  · by_cases h2 : b < a
    · simp [h, h2]
    · simp [h, h2]; omega

theorem cmpL_zero : ∀ (x y : List Int), cmpL x y = 0 ↔ x = y
  | [], [] => by simp [cmpL]
  | [], _ :: _ => by simp [cmpL]
  | _ :: _, [] => by simp [cmpL]
  | x :: xs, y :: ys => by
    simp only [cmpL]
    rcases cmpI_cases x y with ⟨h, h2⟩ | ⟨h, h2⟩ | ⟨h, h2⟩
    · simp [h]; omega
    · rw [if_pos h, cmpL_zero xs ys]; simp [h2]
    · simp [h]; omega

theorem cmpL_swap : ∀ (x y : List Int), cmpL y x = - cmpL x y
  | [], [] => by simp [cmpL]
  | [], _ :: _ => by simp [cmpL]
  | _ :: _, [] => by simp [cmpL]
  | x :: xs, y :: ys => by
    simp only [cmpL]
    have ih := cmpL_swap xs ys
    rcases cmpI_cases x y with ⟨h, h2⟩ | ⟨h, h2⟩ | ⟨h, h2⟩ <;> rcases cmpI_cases y x with ⟨k, k2⟩ | ⟨k, k2⟩ | ⟨k, k2⟩ <;> simp [h, k, ih] <;> omega

theorem cmpL_le_trans : ∀ (x y z : List Int), cmpL x y ≤ 0 → cmpL y z ≤ 0 → cmpL x z ≤ 0
  | [], [], [] => by simp [cmpL]
  | [], [], _ :: _ => by simp [cmpL]
  | [], _ :: _, [] => by simp [cmpL]
  | [], _ :: _, _ :: _ => by simp [cmpL]
  | _ :: _, [], [] => by simp [cmpL]
  | _ :: _, [], _ :: _ => by simp [cmpL]
  | _ :: _, _ :: _, [] => by simp [cmpL]
  | x :: xs, y :: ys, z :: zs => by
    simp only [cmpL]
    have ih := cmpL_le_trans xs ys zs
    rcases cmpI_cases x y with ⟨h, h2⟩ | ⟨h, h2⟩ | ⟨h, h2⟩ <;> rcases cmpI_cases y z with ⟨k, k2⟩ | ⟨k, k2⟩ | ⟨k, k2⟩ <;> rcases cmpI_cases x z with ⟨l, l2⟩ | ⟨l, l2⟩ | ⟨l, l2⟩ <;> simp [h, k, l] <;> first | omega | (intros; omega) | exact ih | skip

theorem cmpL_total (x y : List Int) : cmpL x y ≤ 0 ∨ cmpL y x ≤ 0 := by have := cmpL_swap x y; omega
theorem cmpL_antisymm {x y : List Int} (h : cmpL x y ≤ 0) (k : cmpL y x ≤ 0) : x = y := by
  have := cmpL_swap x y
  exact (cmpL_zero x y).1 (by omega)

/-- ascending by cmpL -/
def SortedL (L : List (List Int)) : Prop := L.Pairwise (fun x y => cmpL x y ≤ 0)
def sortL (L : List (List Int)) : List (List Int) := L.mergeSort (fun x y => decide (cmpL x y ≤ 0))

theorem sortL_perm (L : List (List Int)) : (sortL L).Perm L := List.mergeSort_perm _ _
theorem sortL_sorted (L : List (List Int)) : SortedL (sortL L) := by
  have h := List.pairwise_mergeSort (le := fun x y => decide (cmpL x y ≤ 0)) (fun a b c h k => by simp at *; exact cmpL_le_trans a b c h k) (fun a b => by simp; exact cmpL_total a b) L
  exact h.imp (fun h => by simpa using h)

theorem sorted_unique : ∀ (L M : List (List Int)), SortedL L → SortedL M → L.Perm M → L = M := by
  intro L
  induction L with
  | nil => intro M _ _ h; exact (List.nil_perm.1 h).symm ▸ rfl
  | cons x L ih =>
    intro M hL hM hp
    cases M with
    | nil => exact absurd hp.symm (by simp)
    | cons y M =>
      have hxM : x ∈ y :: M := hp.subset (by simp)
      have hyL : y ∈ x :: L := hp.symm.subset (by simp)
      have hxy : x = y := by
        rcases List.mem_cons.1 hxM with h | h
        · exact h
        · rcases List.mem_cons.1 hyL with k | k
          · exact k.symm
          · exact cmpL_antisymm ((List.pairwise_cons.1 hL).1 y k) ((List.pairwise_cons.1 hM).1 x h)
      subst hxy
      rw [ih M (List.pairwise_cons.1 hL).2 (List.pairwise_cons.1 hM).2 (List.perm_cons x |>.1 hp)]

theorem sortL_unique {L M : List (List Int)} (h : M.Perm L) (hs : SortedL M) : M = sortL L :=
  sorted_unique _ _ hs (sortL_sorted L) (h.trans (sortL_perm L).symm)

theorem sortedL_le {C : List (List Int)} (h : SortedL C) {i j : Nat} (hij : i ≤ j) (hj : j < C.length) : cmpL (gt C i) (gt C j) ≤ 0 := by
  rcases Nat.lt_or_eq_of_le hij with h1 | rfl
  · have := (List.pairwise_iff_getElem.1 h) i j (by omega) hj h1
    simpa [gt, hj, show i < C.length by omega] using this
  · have := (cmpL_zero (gt C i) (gt C i)).2 rfl
    omega

theorem bsTo_spec (C : List (List Int)) (X : List Int) (hs : SortedL C) : ∀ (f lo hi : Nat), hi < lo + f → lo ≤ hi → hi ≤ C.length →
    (∀ j, j < lo → cmpL (gt C j) X < 0) → (∀ j, hi ≤ j → j < C.length → 0 ≤ cmpL (gt C j) X) →
    bsTo C X f lo hi ≤ C.length ∧ (∀ j, j < bsTo C X f lo hi → cmpL (gt C j) X < 0) ∧ (∀ j, bsTo C X f lo hi ≤ j → j < C.length → 0 ≤ cmpL (gt C j) X) := by
  intro f
  induction f with
  | zero => intro lo hi h1 h2; omega
  | succ f ih =>
    intro lo hi h1 h2 h3 h4 h5
    simp only [bsTo]
    by_cases hlt : lo < hi
    · rw [if_pos hlt]
      by_cases hn : cmpL (gt C ((lo + hi) / 2)) X < 0
      · rw [if_pos hn]
        refine ih _ _ (by omega) (by omega) h3 ?_ h5
        intro j hj
        have h6 := sortedL_le hs (show j ≤ (lo + hi) / 2 by omega) (by omega)
        have h7 : ¬ (0 ≤ cmpL (gt C j) X) := by
          intro h8
          have h9 := cmpL_swap (gt C j) X
          have h10 := cmpL_le_trans X (gt C j) (gt C ((lo + hi) / 2)) (by omega) h6
          have h11 := cmpL_swap (gt C ((lo + hi) / 2)) X
          omega
        omega
      · rw [if_neg hn]
        refine ih _ _ (by omega) (by omega) (by omega) h4 ?_
        intro j hj hj2
        have h6 := sortedL_le hs (show (lo + hi) / 2 ≤ j by omega) hj2
        have h7 : ¬ (cmpL (gt C j) X < 0) := by
          intro h8
          have h10 := cmpL_le_trans (gt C ((lo + hi) / 2)) (gt C j) X h6 (by omega)
          have h11 : cmpL (gt C ((lo + hi) / 2)) X = 0 := by omega
          rw [cmpL_zero] at h11
          rw [h11] at h6
          have := cmpL_swap X (gt C j)
          omega
        omega
    · rw [if_neg hlt]
      exact ⟨by omega, h4, fun j hj hj2 => h5 j (by omega) hj2⟩

theorem gt_mem {α : Type} [Inhabited α] {l : List α} {i : Nat} (h : i < l.length) : gt l i ∈ l := by
  simp only [gt, List.getD_eq_getElem?_getD, List.getElem?_eq_getElem h, Option.getD_some]
  exact List.getElem_mem h
theorem mem_gt {α : Type} [Inhabited α] {l : List α} {x : α} (h : x ∈ l) : ∃ i, i < l.length ∧ gt l i = x := by
  obtain ⟨i, hi, rfl⟩ := List.getElem_of_mem h
  exact ⟨i, hi, by simp [gt, hi]⟩

/-- on a sorted row the library's search finds just the members -/
theorem bsFound_mem (C : List (List Int)) (X : List Int) (hs : SortedL C) : bsFound C X = decide (X ∈ C) := by
  obtain ⟨h1, h2, h3⟩ := bsTo_spec C X hs (C.length + 1) 0 C.length (by omega) (by omega) (Nat.le_refl _) (fun j hj => by omega) (fun j hj hj2 => by omega)
  have hb : bs C X = bsTo C X (C.length + 1) 0 C.length := rfl
  rw [← hb] at h1 h2 h3
  by_cases hm : X ∈ C
  · obtain ⟨i, hi, hx⟩ := mem_gt hm
    have h0 : cmpL (gt C i) X = 0 := (cmpL_zero _ _).2 hx
    have hbi : bs C X ≤ i := by
      rcases Nat.lt_or_ge i (bs C X) with h | h
      · have := h2 i h; omega
      · exact h
    have h4 := h3 (bs C X) (Nat.le_refl _) (by omega)
    have h5 := sortedL_le hs hbi hi
    rw [hx] at h5
    have h6 : cmpL (gt C (bs C X)) X = 0 := by omega
    simp [bsFound, hm, h6]; omega
  · by_cases hl : bs C X < C.length
    · have : cmpL (gt C (bs C X)) X ≠ 0 := by
        intro h
        rw [cmpL_zero] at h
        exact hm (h ▸ gt_mem hl)
      simp [bsFound, hm, this]
    · simp [bsFound, hm]; omega

end Go.Proofs.Ytdfjgpioaomceaa
