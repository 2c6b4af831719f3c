/-
  Plain: lexicographic order is the order of numbers; all elements stand ascending.
-/
import Derived.Test.YtljdneobfbimiaaK7
namespace Go.Proofs.Ytljdneobfbimiaa

theorem cmpL_append : ∀ (a b : List Int) (u v : Int), a.length = b.length → cmpL (a ++ [u]) (b ++ [v]) = if cmpL a b = 0 then cmpL [u] [v] else cmpL a b
  | [], [], u, v, _ => by simp [cmpL]
  | [], _ :: _, _, _, h => by simp at h
  | _ :: _, [], _, _, h => by simp at h
  | x :: a, y :: b, u, v, h => by
    have ih := cmpL_append a b u v (by simpa using h)
    generalize cmpL [u] [v] = c at ih ⊢
    simp only [List.cons_append, cmpL]
    rcases cmpI_cases x y with ⟨h1, _⟩ | ⟨h1, _⟩ | ⟨h1, _⟩ <;> simp [h1, ih]

theorem cmpL_one (u v : Int) : (cmpL [u] [v] < 0 ↔ u < v) ∧ (cmpL [u] [v] = 0 ↔ u = v) := by
  simp only [cmpL]
  rcases cmpI_cases u v with ⟨h1, h2⟩ | ⟨h1, h2⟩ | ⟨h1, h2⟩ <;> simp [h1] <;> omega

theorem cmpL_num {P : Pr} (hP : Valid P) {x y : List Int} (hx : Vec P.orders x) (hy : Vec P.orders y) : cmpL x y < 0 ↔ num P x < num P y := by
  have key : ∀ k, k ≤ P.orders.length → (cmpL (x.take k) (y.take k) < 0 ↔ numTo P.orders x k < numTo P.orders y k) ∧ (cmpL (x.take k) (y.take k) = 0 ↔ numTo P.orders x k = numTo P.orders y k) := by
    intro k
    induction k with
    | zero => intro _; simp [numTo, cmpL]
    | succ k ih =>
      intro hk
      obtain ⟨h1, h2⟩ := ih (by omega)
      have ho := hP.ord7 k (by omega)
      have hxk := hx.2 k (by omega)
      have hyk := hy.2 k (by omega)
      rw [take_succ_gt x k (by rw [hx.1]; omega), take_succ_gt y k (by rw [hy.1]; omega), cmpL_append _ _ _ _ (by simp [hx.1, hy.1])]
      simp only [numTo]
      obtain ⟨c1, c2⟩ := cmpL_one (gt x k) (gt y k)
      rcases Int.lt_trichotomy (numTo P.orders x k) (numTo P.orders y k) with h | h | h
      · have hc : cmpL (x.take k) (y.take k) < 0 := h1.2 h
        rw [if_neg (by omega)]
        have h3 : (numTo P.orders x k + 1) * gt P.orders k ≤ numTo P.orders y k * gt P.orders k := Int.mul_le_mul_of_nonneg_right (by omega) (by omega)
        rw [Int.add_mul, Int.one_mul] at h3
        exact ⟨⟨fun _ => by omega, fun _ => hc⟩, ⟨fun h => by omega, fun h => by omega⟩⟩
      · have hc : cmpL (x.take k) (y.take k) = 0 := h2.2 h
        rw [if_pos hc, h]
        exact ⟨by rw [c1]; omega, by rw [c2]; omega⟩
      · have hc : ¬ cmpL (x.take k) (y.take k) < 0 := fun e => by have := h1.1 e; omega
        have hc2 : ¬ cmpL (x.take k) (y.take k) = 0 := fun e => by have := h2.1 e; omega
        rw [if_neg hc2]
        have h3 : (numTo P.orders y k + 1) * gt P.orders k ≤ numTo P.orders x k * gt P.orders k := Int.mul_le_mul_of_nonneg_right (by omega) (by omega)
        rw [Int.add_mul, Int.one_mul] at h3
        exact ⟨⟨fun h => absurd h hc, fun h => by omega⟩, ⟨fun h => absurd h hc2, fun h => by omega⟩⟩
  have h := (key P.orders.length (Nat.le_refl _)).1
  rw [List.take_of_length_le (by rw [hx.1]; omega), List.take_of_length_le (by rw [hy.1]; omega)] at h
  exact h

end Go.Proofs.Ytljdneobfbimiaa
