/-
  Plain: the numbers of elements: num and elAt undo one another.
-/
import Derived.Test.YtdfjgpioaomceaaElts
namespace Go.Proofs.Ytdfjgpioaomceaa

theorem elTo_len (o : List Int) (N : Nat) (m : Int) (k : Nat) : (elTo o N m k).1.length = N := by
  induction k with
  | zero => simp [elTo]
  | succ k ih => simp only [elTo]; rw [List.length_set, ih]

theorem elTo_keep (o : List Int) (N : Nat) (m : Int) (j k : Nat) (hk : j < k) (hkN : k ≤ N) : gt (elTo o N m k).1 (N - 1 - j) = (elTo o N m j).2 % gt o (N - 1 - j) := by
  induction k with
  | zero => omega
  | succ k ih =>
    simp only [elTo]
    by_cases e : j = k
    · subst e; rw [gt_set_eq _ _ _ (by rw [elTo_len]; omega)]
    · rw [gt_set_ne _ _ _ _ (by omega)]; exact ih (by omega) (by omega)

theorem elTo_lt {P : Pr} (hP : Valid P) (m : Int) (h1 : m < ordP P) (k : Nat) (hk : k ≤ P.orders.length) : (elTo P.orders P.orders.length m k).2 < prodTo P.orders (P.orders.length - k) := by
  induction k with
  | zero => exact h1
  | succ k ih =>
    have h2 := ih (by omega)
    have ho := hP.ord7 (P.orders.length - 1 - k) (by omega)
    simp only [elTo]
    have e : P.orders.length - k = (P.orders.length - (k + 1)) + 1 := by omega
    rw [e] at h2
    simp only [prodTo] at h2
    rw [show P.orders.length - (k + 1) = P.orders.length - 1 - k by omega] at h2 ⊢
    exact Int.ediv_lt_of_lt_mul (by omega) h2

theorem num_elAt {P : Pr} (hP : Valid P) (m : Int) (h0 : 0 ≤ m) (h1 : m < ordP P) : num P (elAt P m) = m := by
  have hz : (elTo P.orders P.orders.length m P.orders.length).2 = 0 := by
    have h2 := elTo_lt hP m h1 P.orders.length (Nat.le_refl _)
    have h3 := (elTo_inv hP m h0 P.orders.length (Nat.le_refl _)).2.1
    rw [Nat.sub_self] at h2
    simp only [prodTo] at h2
    omega
  have key : ∀ k, k ≤ P.orders.length → numTo P.orders (elAt P m) k = (elTo P.orders P.orders.length m (P.orders.length - k)).2 := by
    intro k
    induction k with
    | zero => intro _; simp only [numTo, Nat.sub_zero]; exact hz.symm
    | succ k ih =>
      intro hk
      simp only [numTo]
      rw [ih (by omega)]
      have e : P.orders.length - k = (P.orders.length - (k + 1)) + 1 := by omega
      have hg : gt (elAt P m) k = (elTo P.orders P.orders.length m (P.orders.length - (k + 1))).2 % gt P.orders k := by
        have := elTo_keep P.orders P.orders.length m (P.orders.length - (k + 1)) P.orders.length (by omega) (Nat.le_refl _)
        rw [show P.orders.length - 1 - (P.orders.length - (k + 1)) = k by omega] at this
        exact this
      rw [hg, e]
      simp only [elTo]
      rw [show P.orders.length - 1 - (P.orders.length - (k + 1)) = k by omega]
      have := Int.emod_add_mul_ediv (elTo P.orders P.orders.length m (P.orders.length - (k + 1))).2 (gt P.orders k)
      rw [Int.mul_comm] at this
      omega
  have h4 := key P.orders.length (Nat.le_refl _)
  rw [Nat.sub_self] at h4
  exact h4

theorem num_inj {P : Pr} (hP : Valid P) {x y : List Int} (hx : Vec P.orders x) (hy : Vec P.orders y) (h : num P x = num P y) : x = y := by
  have key : ∀ k, k ≤ P.orders.length → numTo P.orders x (P.orders.length - k) = numTo P.orders y (P.orders.length - k) ∧ ∀ j, P.orders.length - k ≤ j → j < P.orders.length → gt x j = gt y j := by
    intro k
    induction k with
    | zero => intro _; exact ⟨h, fun j a b => by omega⟩
    | succ k ih =>
      intro hk
      obtain ⟨h1, h2⟩ := ih (by omega)
      have e : P.orders.length - k = (P.orders.length - (k + 1)) + 1 := by omega
      rw [e] at h1
      simp only [numTo] at h1
      have ho := hP.ord7 (P.orders.length - (k + 1)) (by omega)
      have hxk := hx.2 (P.orders.length - (k + 1)) (by omega)
      have hyk := hy.2 (P.orders.length - (k + 1)) (by omega)
      have e1 : gt x (P.orders.length - (k + 1)) = gt y (P.orders.length - (k + 1)) := by
        have h3 : (numTo P.orders x (P.orders.length - (k + 1)) * gt P.orders (P.orders.length - (k + 1)) + gt x (P.orders.length - (k + 1))) % gt P.orders (P.orders.length - (k + 1)) = (numTo P.orders y (P.orders.length - (k + 1)) * gt P.orders (P.orders.length - (k + 1)) + gt y (P.orders.length - (k + 1))) % gt P.orders (P.orders.length - (k + 1)) := by rw [h1]
        rw [Int.add_comm, Int.add_mul_emod_self_right, Int.add_comm _ (gt y _), Int.add_mul_emod_self_right, Int.emod_eq_of_lt hxk.1 hxk.2, Int.emod_eq_of_lt hyk.1 hyk.2] at h3
        exact h3
      refine ⟨?_, fun j a b => ?_⟩
      · have h4 : numTo P.orders x (P.orders.length - (k + 1)) * gt P.orders (P.orders.length - (k + 1)) = numTo P.orders y (P.orders.length - (k + 1)) * gt P.orders (P.orders.length - (k + 1)) := by omega
        exact Int.eq_of_mul_eq_mul_right (by omega) h4
      · by_cases ej : j = P.orders.length - (k + 1)
        · rw [ej]; exact e1
        · exact h2 j (by omega) b
  have h5 := (key P.orders.length (Nat.le_refl _)).2
  exact ext_gt (by rw [hx.1, hy.1]) (fun k hk => h5 k (by omega) (by rw [← hx.1]; exact hk))

theorem elAt_num {P : Pr} (hP : Valid P) {x : List Int} (hx : Vec P.orders x) : elAt P (num P x) = x := by
  have hb := num_bd hP hx
  exact num_inj hP (elAt_vec hP _ hb.1) hx (num_elAt hP _ hb.1 hb.2)

end Go.Proofs.Ytdfjgpioaomceaa
