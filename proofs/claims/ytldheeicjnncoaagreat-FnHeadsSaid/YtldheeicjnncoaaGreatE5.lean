/-
  Plain: the numbers of elements: num and elAt undo one another.
  cmp.Compare at int64 and slices.Compare at []int64.
  The order of slices.Compare is a total order on lists of integers. Plain.
  Plain: lexicographic order is the order of numbers; all elements stand ascending.
  Plain: the elements of a subgroup as products along its sequence.
  append of one element inside a region that draws its order.
  append to a queue of rows inside a region that draws its order; v[1:] at rows.
  (*impl.sequence).canonical.
  (*impl.sequence).add.
  impl.generated.
  impl.sameRows, impl.areSubgroups.
  Plain: a sequence as a table by depths, as the reference lays it; coset representatives, sifting and the reduced sequence by such a table.
  Plain: generated subgroups of sets; intersections.
  Plain: a group of order at most 32 has at most 17408 subgroups (a crude bound).
  impl.sizeOf.
  Plain: the list of products, element by element (for impl.elementsOf).
  Moebius values of the lattice: the sum over all subgroups above one; the number of generating lists.
  Plain: the elements of a consistent presentation as a type with products; subgroups, cosets, their counting.
-/
import Derived.Test.YtldheeicjnncoaaGreatE3
import Derived.Test.YtldheeicjnncoaaGreatE4
import Derived.Deep.AppendLies
namespace Go.Proofs.YtldheeicjnncoaaGreat

theorem elTo_len (o : List Int) (N : Nat) (m : Int) (k : Nat) : (elTo o N m k).1.length = N := by
  induction k with
  | zero => simp [elTo]
  | succ k ih => simp only [elTo]; rw [List.length_set, ih]

theorem elTo_keep (o : List Int) (N : Nat) (m : Int) (j k : Nat) (hk : j < k) (hkN : k ≤ N) : gt (elTo o N m k).1 (N - 1 - j) = (elTo o N m j).2 % gt o (N - 1 - j) := by
  induction k with
  | zero => omega
  | succ k ih =>
    simp only [elTo]
    by_cases e : j = k
    · subst e; rw [gt_set_eq _ _ _ (by rw [elTo_len]; omega)]
    · rw [gt_set_ne _ _ _ _ (by omega)]; exact ih (by omega) (by omega)

theorem elTo_lt {P : Pr} (hP : Valid P) (m : Int) (h1 : m < ordP P) (k : Nat) (hk : k ≤ P.orders.length) : (elTo P.orders P.orders.length m k).2 < prodTo P.orders (P.orders.length - k) := by
  induction k with
  | zero => exact h1
  | succ k ih =>
    have h2 := ih (by omega)
    have ho := hP.ord7 (P.orders.length - 1 - k) (by omega)
    simp only [elTo]
    have e : P.orders.length - k = (P.orders.length - (k + 1)) + 1 := by omega
    rw [e] at h2
    simp only [prodTo] at h2
    rw [show P.orders.length - (k + 1) = P.orders.length - 1 - k by omega] at h2 ⊢
    exact Int.ediv_lt_of_lt_mul (by omega) h2

theorem num_elAt {P : Pr} (hP : Valid P) (m : Int) (h0 : 0 ≤ m) (h1 : m < ordP P) : num P (elAt P m) = m := by
  have hz : (elTo P.orders P.orders.length m P.orders.length).2 = 0 := by
    have h2 := elTo_lt hP m h1 P.orders.length (Nat.le_refl _)
    have h3 := (elTo_inv hP m h0 P.orders.length (Nat.le_refl _)).2.1
    rw [Nat.sub_self] at h2
    simp only [prodTo] at h2
    omega
  have key : ∀ k, k ≤ P.orders.length → numTo P.orders (elAt P m) k = (elTo P.orders P.orders.length m (P.orders.length - k)).2 := by
    intro k
    induction k with
    | zero => intro _; simp only [numTo, Nat.sub_zero]; exact hz.symm
    | succ k ih =>
      intro hk
      simp only [numTo]
      rw [ih (by omega)]
      have e : P.orders.length - k = (P.orders.length - (k + 1)) + 1 := by omega
      have hg : gt (elAt P m) k = (elTo P.orders P.orders.length m (P.orders.length - (k + 1))).2 % gt P.orders k := by
        have := elTo_keep P.orders P.orders.length m (P.orders.length - (k + 1)) P.orders.length (by omega) (Nat.le_refl _)
        rw [show P.orders.length - 1 - (P.orders.length - (k + 1)) = k by omega] at this
        exact this
      rw [hg, e]
      simp only [elTo]
      rw [show P.orders.length - 1 - (P.orders.length - (k + 1)) = k by omega]
      have := Int.emod_add_mul_ediv (elTo P.orders P.orders.length m (P.orders.length - (k + 1))).2 (gt P.orders k)
      rw [Int.mul_comm] at this
      omega
  have h4 := key P.orders.length (Nat.le_refl _)
  rw [Nat.sub_self] at h4
  exact h4

theorem num_inj {P : Pr} (hP : Valid P) {x y : List Int} (hx : Vec P.orders x) (hy : Vec P.orders y) (h : num P x = num P y) : x = y := by
  have key : ∀ k, k ≤ P.orders.length → numTo P.orders x (P.orders.length - k) = numTo P.orders y (P.orders.length - k) ∧ ∀ j, P.orders.length - k ≤ j → j < P.orders.length → gt x j = gt y j := by
    intro k
    induction k with
    | zero => intro _; exact ⟨h, fun j a b => by omega⟩
    | succ k ih =>
      intro hk
      obtain ⟨h1, h2⟩ := ih (by omega)
      have e : P.orders.length - k = (P.orders.length - (k + 1)) + 1 := by omega
      rw [e] at h1
      simp only [numTo] at h1
      have ho := hP.ord7 (P.orders.length - (k + 1)) (by omega)
      have hxk := hx.2 (P.orders.length - (k + 1)) (by omega)
      have hyk := hy.2 (P.orders.length - (k + 1)) (by omega)
      have e1 : gt x (P.orders.length - (k + 1)) = gt y (P.orders.length - (k + 1)) := by
        have h3 : (numTo P.orders x (P.orders.length - (k + 1)) * gt P.orders (P.orders.length - (k + 1)) + gt x (P.orders.length - (k + 1))) % gt P.orders (P.orders.length - (k + 1)) = (numTo P.orders y (P.orders.length - (k + 1)) * gt P.orders (P.orders.length - (k + 1)) + gt y (P.orders.length - (k + 1))) % gt P.orders (P.orders.length - (k + 1)) := by rw [h1]
        rw [Int.add_comm, Int.add_mul_emod_self_right, Int.add_comm _ (gt y _), Int.add_mul_emod_self_right, Int.emod_eq_of_lt hxk.1 hxk.2, Int.emod_eq_of_lt hyk.1 hyk.2] at h3
        exact h3
      refine ⟨?_, fun j a b => ?_⟩
      · have h4 : numTo P.orders x (P.orders.length - (k + 1)) * gt P.orders (P.orders.length - (k + 1)) = numTo P.orders y (P.orders.length - (k + 1)) * gt P.orders (P.orders.length - (k + 1)) := by omega
        exact Int.eq_of_mul_eq_mul_right (by omega) h4
      · by_cases ej : j = P.orders.length - (k + 1)
        · rw [ej]; exact e1
        · exact h2 j (by omega) b
  have h5 := (key P.orders.length (Nat.le_refl _)).2
  exact ext_gt (by rw [hx.1, hy.1]) (fun k hk => h5 k (by omega) (by rw [← hx.1]; exact hk))

theorem elAt_num {P : Pr} (hP : Valid P) {x : List Int} (hx : Vec P.orders x) : elAt P (num P x) = x := by
  have hb := num_bd hP hx
  exact num_inj hP (elAt_vec hP _ hb.1) hx (num_elAt hP _ hb.1 hb.2)

end Go.Proofs.YtldheeicjnncoaaGreat
namespace Go.Proofs.YtldheeicjnncoaaGreat
open Go.RowKit

def cmpI (a b : Int) : Int := if a < b then -1 else if b < a then 1 else 0

/-- the order of slices.Compare -/
def cmpL : List Int → List Int → Int
  | [], [] => 0
  | [], _ :: _ => -1
  | _ :: _, [] => 1
  | x :: xs, y :: ys => if cmpI x y = 0 then cmpL xs ys else cmpI x y

end Go.Proofs.YtldheeicjnncoaaGreat
namespace Go.Proofs.YtldheeicjnncoaaGreat
open Go.RowKit

theorem cmpI_cases (a b : Int) : (cmpI a b = -1 ∧ a < b) ∨ (cmpI a b = 0 ∧ a = b) ∨ (cmpI a b = 1 ∧ b < a) := by
  unfold cmpI
  by_cases h : a < b
  · simp [h]
  · by_cases h2 : b < a
    · simp [h, h2]
    · simp [h, h2]; omega

theorem cmpL_zero : ∀ (x y : List Int), cmpL x y = 0 ↔ x = y
  | [], [] => by simp [cmpL]
  | [], _ :: _ => by simp [cmpL]
  | _ :: _, [] => by simp [cmpL]
  | x :: xs, y :: ys => by
    simp only [cmpL]
    rcases cmpI_cases x y with ⟨h, h2⟩ | ⟨h, h2⟩ | ⟨h, h2⟩
    · simp [h]; omega
    · rw [if_pos h, cmpL_zero xs ys]; simp [h2]
    · simp [h]; omega

theorem cmpL_swap : ∀ (x y : List Int), cmpL y x = - cmpL x y
  | [], [] => by simp [cmpL]
  | [], _ :: _ => by simp [cmpL]
  | _ :: _, [] => by simp [cmpL]
  | x :: xs, y :: ys => by
    simp only [cmpL]
    have ih := cmpL_swap xs ys
    rcases cmpI_cases x y with ⟨h, h2⟩ | ⟨h, h2⟩ | ⟨h, h2⟩ <;> rcases cmpI_cases y x with ⟨k, k2⟩ | ⟨k, k2⟩ | ⟨k, k2⟩ <;> simp [h, k, ih] <;> omega

theorem cmpL_le_trans : ∀ (x y z : List Int), cmpL x y ≤ 0 → cmpL y z ≤ 0 → cmpL x z ≤ 0
  | [], [], [] => by simp [cmpL]
  | [], [], _ :: _ => by simp [cmpL]
  | [], _ :: _, [] => by simp [cmpL]
  | [], _ :: _, _ :: _ => by simp [cmpL]
  | _ :: _, [], [] => by simp [cmpL]
  | _ :: _, [], _ :: _ => by simp [cmpL]
  | _ :: _, _ :: _, [] => by simp [cmpL]
  | x :: xs, y :: ys, z :: zs => by
    simp only [cmpL]
    have ih := cmpL_le_trans xs ys zs
    rcases cmpI_cases x y with ⟨h, h2⟩ | ⟨h, h2⟩ | ⟨h, h2⟩ <;> rcases cmpI_cases y z with ⟨k, k2⟩ | ⟨k, k2⟩ | ⟨k, k2⟩ <;> rcases cmpI_cases x z with ⟨l, l2⟩ | ⟨l, l2⟩ | ⟨l, l2⟩ <;> simp [h, k, l] <;> first | omega | (intros; omega) | exact ih | skip

theorem cmpL_total (x y : List Int) : cmpL x y ≤ 0 ∨ cmpL y x ≤ 0 := by have := cmpL_swap x y; omega
theorem cmpL_antisymm {x y : List Int} (h : cmpL x y ≤ 0) (k : cmpL y x ≤ 0) : x = y := by
  have := cmpL_swap x y
  exact (cmpL_zero x y).1 (by omega)

/-- ascending by cmpL -/
def SortedL (L : List (List Int)) : Prop := L.Pairwise (fun x y => cmpL x y ≤ 0)
def sortL (L : List (List Int)) : List (List Int) := L.mergeSort (fun x y => decide (cmpL x y ≤ 0))

theorem sortL_perm (L : List (List Int)) : (sortL L).Perm L := List.mergeSort_perm _ _
theorem sortL_sorted (L : List (List Int)) : SortedL (sortL L) := by
  have h := List.pairwise_mergeSort (le := fun x y => decide (cmpL x y ≤ 0)) (fun a b c h k => by simp at *; exact cmpL_le_trans a b c h k) (fun a b => by simp; exact cmpL_total a b) L
  exact h.imp (fun h => by simpa using h)

theorem sorted_unique : ∀ (L M : List (List Int)), SortedL L → SortedL M → L.Perm M → L = M := by
  intro L
  induction L with
  | nil => intro M _ _ h; exact (List.nil_perm.1 h).symm ▸ rfl
  | cons x L ih =>
    intro M hL hM hp
    cases M with
    | nil => exact absurd hp.symm (by simp)
    | cons y M =>
      have hxM : x ∈ y :: M := hp.subset (by simp)
      have hyL : y ∈ x :: L := hp.symm.subset (by simp)
      have hxy : x = y := by
        rcases List.mem_cons.1 hxM with h | h
        · exact h
        · rcases List.mem_cons.1 hyL with k | k
          · exact k.symm
          · exact cmpL_antisymm ((List.pairwise_cons.1 hL).1 y k) ((List.pairwise_cons.1 hM).1 x h)
      subst hxy
      rw [ih M (List.pairwise_cons.1 hL).2 (List.pairwise_cons.1 hM).2 (List.perm_cons x |>.1 hp)]

theorem gt_mem {α : Type} [Inhabited α] {l : List α} {i : Nat} (h : i < l.length) : gt l i ∈ l := by
  simp only [gt, List.getD_eq_getElem?_getD, List.getElem?_eq_getElem h, Option.getD_some]
  exact List.getElem_mem h
theorem mem_gt {α : Type} [Inhabited α] {l : List α} {x : α} (h : x ∈ l) : ∃ i, i < l.length ∧ gt l i = x := by
  obtain ⟨i, hi, rfl⟩ := List.getElem_of_mem h
  exact ⟨i, hi, by simp [gt, hi]⟩

end Go.Proofs.YtldheeicjnncoaaGreat
namespace Go.Proofs.YtldheeicjnncoaaGreat

theorem cmpL_append : ∀ (a b : List Int) (u v : Int), a.length = b.length → cmpL (a ++ [u]) (b ++ [v]) = if cmpL a b = 0 then cmpL [u] [v] else cmpL a b
  | [], [], u, v, _ => by simp [cmpL]
  | [], _ :: _, _, _, h => by simp at h
  | _ :: _, [], _, _, h => by simp at h
  | x :: a, y :: b, u, v, h => by
    have ih := cmpL_append a b u v (by simpa using h)
    generalize cmpL [u] [v] = c at ih ⊢
    simp only [List.cons_append, cmpL]
    rcases cmpI_cases x y with ⟨h1, _⟩ | ⟨h1, _⟩ | ⟨h1, _⟩ <;> simp [h1, ih]

theorem cmpL_one (u v : Int) : (cmpL [u] [v] < 0 ↔ u < v) ∧ (cmpL [u] [v] = 0 ↔ u = v) := by
  simp only [cmpL]
  rcases cmpI_cases u v with ⟨h1, h2⟩ | ⟨h1, h2⟩ | ⟨h1, h2⟩ <;> simp [h1] <;> omega

theorem cmpL_num {P : Pr} (hP : Valid P) {x y : List Int} (hx : Vec P.orders x) (hy : Vec P.orders y) : cmpL x y < 0 ↔ num P x < num P y := by
  have key : ∀ k, k ≤ P.orders.length → (cmpL (x.take k) (y.take k) < 0 ↔ numTo P.orders x k < numTo P.orders y k) ∧ (cmpL (x.take k) (y.take k) = 0 ↔ numTo P.orders x k = numTo P.orders y k) := by
    intro k
    induction k with
    | zero => intro _; simp [numTo, cmpL]
    | succ k ih =>
      intro hk
      obtain ⟨h1, h2⟩ := ih (by omega)
      have ho := hP.ord7 k (by omega)
      have hxk := hx.2 k (by omega)
      have hyk := hy.2 k (by omega)
      rw [take_succ_gt x k (by rw [hx.1]; omega), take_succ_gt y k (by rw [hy.1]; omega), cmpL_append _ _ _ _ (by simp [hx.1, hy.1])]
      simp only [numTo]
      obtain ⟨c1, c2⟩ := cmpL_one (gt x k) (gt y k)
      rcases Int.lt_trichotomy (numTo P.orders x k) (numTo P.orders y k) with h | h | h
      · have hc : cmpL (x.take k) (y.take k) < 0 := h1.2 h
        rw [if_neg (by omega)]
        have h3 : (numTo P.orders x k + 1) * gt P.orders k ≤ numTo P.orders y k * gt P.orders k := Int.mul_le_mul_of_nonneg_right (by omega) (by omega)
        rw [Int.add_mul, Int.one_mul] at h3
        exact ⟨⟨fun _ => by omega, fun _ => hc⟩, ⟨fun h => by omega, fun h => by omega⟩⟩
      · have hc : cmpL (x.take k) (y.take k) = 0 := h2.2 h
        rw [if_pos hc, h]
        exact ⟨by rw [c1]; omega, by rw [c2]; omega⟩
      · have hc : ¬ cmpL (x.take k) (y.take k) < 0 := fun e => by have := h1.1 e; omega
        have hc2 : ¬ cmpL (x.take k) (y.take k) = 0 := fun e => by have := h2.1 e; omega
        rw [if_neg hc2]
        have h3 : (numTo P.orders y k + 1) * gt P.orders k ≤ numTo P.orders x k * gt P.orders k := Int.mul_le_mul_of_nonneg_right (by omega) (by omega)
        rw [Int.add_mul, Int.one_mul] at h3
        exact ⟨⟨fun h => absurd h hc, fun h => by omega⟩, ⟨fun h => absurd h hc2, fun h => by omega⟩⟩
  have h := (key P.orders.length (Nat.le_refl _)).1
  rw [List.take_of_length_le (by rw [hx.1]; omega), List.take_of_length_le (by rw [hy.1]; omega)] at h
  exact h

/-- a list of different elements, ascending, is determined by its members -/
theorem asc_unique {P : Pr} (hP : Valid P) {L M : List (List Int)} (hL : ∀ x ∈ L, Vec P.orders x) (hsL : L.Pairwise (fun x y => num P x < num P y)) (hM : M.Pairwise (fun x y => num P x < num P y)) (h : ∀ x, x ∈ L ↔ x ∈ M) : L = M := by
  have nd : ∀ {K : List (List Int)}, K.Pairwise (fun x y => num P x < num P y) → K.Nodup := fun hK => hK.imp (fun h e => by rw [e] at h; omega)
  have hp : L.Perm M := (List.perm_ext_iff_of_nodup (nd hsL) (nd hM)).2 h
  have hMv : ∀ x ∈ M, Vec P.orders x := fun x hx => hL x ((h x).2 hx)
  have s1 : SortedL L := by
    refine List.Pairwise.imp_of_mem ?_ hsL
    intro a b ha hb hab
    have := (cmpL_num hP (hL a ha) (hL b hb)).2 hab
    omega
  have s2 : SortedL M := by
    refine List.Pairwise.imp_of_mem ?_ hM
    intro a b ha hb hab
    have := (cmpL_num hP (hMv a ha) (hMv b hb)).2 hab
    omega
  exact sorted_unique L M s1 s2 hp

open Classical in
/-- the elements of a set, ascending -/
noncomputable def elemsIn (P : Pr) (H : List Int → Prop) : List (List Int) := (List.range (ordP P).toNat).filterMap (fun t : Nat => if H (elAt P (t : Int)) then some (elAt P (t : Int)) else none)

theorem elemsIn_mem {P : Pr} (hP : Valid P) {H : List Int → Prop} (hH : ∀ x, H x → Vec P.orders x) (x : List Int) : x ∈ elemsIn P H ↔ H x := by
  unfold elemsIn
  rw [List.mem_filterMap]
  constructor
  · rintro ⟨t, _, h⟩
    split at h
    · cases h; assumption
    · cases h
  · intro h
    have hb := num_bd hP (hH x h)
    refine ⟨(num P x).toNat, List.mem_range.2 (by omega), ?_⟩
    have e : elAt P (((num P x).toNat : Nat) : Int) = x := by
      rw [show (((num P x).toNat : Nat) : Int) = num P x by omega]; exact elAt_num hP (hH x h)
    rw [e, if_pos h]

theorem elemsIn_asc {P : Pr} (hP : Valid P) (H : List Int → Prop) : (elemsIn P H).Pairwise (fun x y => num P x < num P y) := by
  unfold elemsIn
  rw [List.pairwise_filterMap]
  refine List.Pairwise.imp_of_mem ?_ (List.pairwise_lt_range (n := (ordP P).toNat))
  intro a b ha hb hab x hx y hy
  have ha' := List.mem_range.1 ha
  have hb' := List.mem_range.1 hb
  split at hx
  · split at hy
    · cases hx; cases hy
      rw [num_elAt hP _ (by omega) (by omega), num_elAt hP _ (by omega) (by omega)]
      omega
    · cases hy
  · cases hx

/-- sorted by the library, a list of different elements is the ascending one -/
theorem sort_elemsIn {P : Pr} (hP : Valid P) {H : List Int → Prop} (hH : ∀ x, H x → Vec P.orders x) {L : List (List Int)} (hn : L.Nodup) (hm : ∀ x, x ∈ L ↔ H x) : sortL L = elemsIn P H := by
  have hp := sortL_perm L
  have hmem : ∀ x, x ∈ sortL L ↔ H x := fun x => hp.mem_iff.trans (hm x)
  have hnd : (sortL L).Nodup := hp.nodup_iff.2 hn
  refine asc_unique hP (fun x hx => hH x ((hmem x).1 hx)) ?_ (elemsIn_asc hP H) (fun x => (hmem x).trans (elemsIn_mem hP hH x).symm)
  have hs := sortL_sorted L
  have h2 : (sortL L).Pairwise (fun x y => cmpL x y ≤ 0 ∧ x ≠ y) := by
    have := List.pairwise_and_iff.2 ⟨hs, hnd⟩
    exact this
  refine List.Pairwise.imp_of_mem ?_ h2
  intro a b ha hb hab
  have hva := hH a ((hmem a).1 ha)
  have hvb := hH b ((hmem b).1 hb)
  refine (cmpL_num hP hva hvb).1 ?_
  have h0 : cmpL a b ≠ 0 := fun e => hab.2 ((cmpL_zero a b).1 e)
  omega

end Go.Proofs.YtldheeicjnncoaaGreat
namespace Go.Proofs.YtldheeicjnncoaaGreat

def stepE (P : Pr) (u : List Int) (o : Nat) (x : List Int) : List (List Int) := (List.range o).map (fun t => rMul P x (pw P u t))

def elsP (P : Pr) (U : List (List Int)) : Nat → List (List Int)
  | 0 => [zeros P.orders.length]
  | k + 1 => (elsP P U k).flatMap (stepE P (gt U k) (gt P.orders (dep (gt U k))).toNat)

section
variable {P : Pr} (G : Grp P)
include G

omit G in
theorem elsP_sub {H : List Int → Prop} {U : List (List Int)} (S : Sub P H) (hU : ∀ z ∈ U, H z) : ∀ k, k ≤ U.length → ∀ x ∈ elsP P U k, H x := by
  intro k
  induction k with
  | zero => intro _ x hx; simp [elsP] at hx; rw [hx]; exact S.one
  | succ k ih =>
    intro hk x hx
    simp only [elsP, List.mem_flatMap, stepE, List.mem_map] at hx
    obtain ⟨y, hy, t, _, rfl⟩ := hx
    exact S.mul _ _ (ih (by omega) y hy) (S.pw (hU _ (gtMem (by omega))) t)

theorem Grp.elsP_diff {U : List (List Int)} (hU : SeqOk P U) : ∀ k m, k ≤ U.length → (∀ j, j < k → dep (gt U j) < m) → m ≤ P.orders.length → (elsP P U k).Pairwise (fun x y => ∃ j, j < m ∧ gt x j ≠ gt y j) := by
  intro k
  induction k with
  | zero => intro m _ _ _; simp [elsP]
  | succ k ih =>
    intro m hk hj hm
    have hlt : k < U.length := by omega
    obtain ⟨hV, hd, h1⟩ := hU.1 _ (gtMem hlt)
    have hdm := hj k (by omega)
    have hT := dep_T hV
    have hIH := ih (dep (gt U k)) (by omega) (fun j hj => hU.2 j k hj hlt) (by omega)
    have hvec : ∀ x ∈ elsP P U k, Vec P.orders x := elsP_sub G.sub_all (fun z hz => (hU.1 z hz).1) k (by omega)
    have ho := G.v.ord (dep (gt U k)) hd
    have hat : ∀ x, Vec P.orders x → ∀ t : Nat, t < (gt P.orders (dep (gt U k))).toNat → gt (rMul P x (pw P (gt U k) t)) (dep (gt U k)) = (gt x (dep (gt U k)) + t) % gt P.orders (dep (gt U k)) ∧ ∀ j, j < dep (gt U k) → gt (rMul P x (pw P (gt U k) t)) j = gt x j := fun x hx t ht => by
      have hr := G.right (Nat.le_of_lt hd) hx (G.pw_T (Nat.le_of_lt hd) hT t)
      refine ⟨?_, hr.1⟩
      rw [hr.2 hd, G.pw_at hd hT, h1, Int.mul_one, Int.emod_eq_of_lt (show (0 : Int) ≤ t by omega) (by omega)]
    simp only [elsP]
    rw [List.pairwise_flatMap]
    refine ⟨fun x hx => ?_, ?_⟩
    · unfold stepE
      rw [List.pairwise_map]
      refine List.Pairwise.imp_of_mem ?_ List.pairwise_lt_range
      intro s t hs ht hst
      have hs := List.mem_range.1 hs
      have ht := List.mem_range.1 ht
      refine ⟨dep (gt U k), hdm, ?_⟩
      rw [(hat x (hvec x hx) s hs).1, (hat x (hvec x hx) t ht).1]
      rcases ho with h | h | h | h <;> rw [h] at hs ht ⊢ <;> omega
    · refine List.Pairwise.imp_of_mem ?_ hIH
      rintro x y hx hy ⟨j, hjd, hne⟩ a ha b hb
      simp only [stepE, List.mem_map, List.mem_range] at ha hb
      obtain ⟨s, hs, rfl⟩ := ha
      obtain ⟨t, ht, rfl⟩ := hb
      exact ⟨j, by omega, by rw [(hat x (hvec x hx) s hs).2 j hjd, (hat y (hvec y hy) t ht).2 j hjd]; exact hne⟩

theorem Grp.elsP_nodup {U : List (List Int)} (hU : SeqOk P U) : (elsP P U U.length).Nodup :=
  (G.elsP_diff hU U.length P.orders.length (Nat.le_refl _) (fun j hj => (hU.1 _ (gtMem hj)).2.1) (Nat.le_refl _)).imp (fun ⟨j, _, h⟩ e => h (by rw [e]))

/-- where the next pivot stands -/
def nextD (P : Pr) (U : List (List Int)) (k : Nat) : Nat := if k < U.length then dep (gt U k) else P.orders.length

theorem Grp.next_T {H : List Int → Prop} {U : List (List Int)} (hU : SeqOk P U) (hv : ∀ x, H x → Vec P.orders x) (hpiv : ∀ x, H x → ∀ d, d < P.orders.length → T P d x → gt x d ≠ 0 → ∃ j, j < U.length ∧ dep (gt U j) = d) (k m : Nat) (hk : k ≤ U.length) (hm : ∀ j, j < k → dep (gt U j) < m) {z : List Int} (hz : H z) (hT : ∀ j, j < m → gt z j = 0) : T P (nextD P U k) z := by
  by_cases h0 : z = zeros P.orders.length
  · rw [h0]; exact T.zeros G.v _
  · obtain ⟨d, hd, hTd, hne⟩ := depth_ex (hv z hz) h0
    obtain ⟨j, hj, hjd⟩ := hpiv z hz d hd hTd hne
    have hmd : m ≤ d := by
      rcases Nat.lt_or_ge d m with h | h
      · exact absurd (hT d h) hne
      · exact h
    have hkj : k ≤ j := by
      rcases Nat.lt_or_ge j k with h | h
      · have := hm j h; omega
      · exact h
    have hle : nextD P U k ≤ d := by
      unfold nextD
      rw [if_pos (by omega)]
      rcases Nat.lt_or_ge k j with h | h
      · have := hU.2 k j h hj; omega
      · have : k = j := by omega
        rw [this]; omega
    exact hTd.down hle

theorem Grp.elsP_all {H : List Int → Prop} {U : List (List Int)} (S : Sub P H) (hU : SeqOk P U) (hUH : ∀ z ∈ U, H z) (hpiv : ∀ x, H x → ∀ d, d < P.orders.length → T P d x → gt x d ≠ 0 → ∃ j, j < U.length ∧ dep (gt U j) = d) {h : List Int} (hh : H h) :
    ∀ k, k ≤ U.length → ∃ x z, x ∈ elsP P U k ∧ H z ∧ T P (nextD P U k) z ∧ h = rMul P x z := by
  intro k
  induction k with
  | zero => exact fun _ => ⟨zeros P.orders.length, h, by simp [elsP], hh, G.next_T hU S.vec hpiv 0 0 (by omega) (fun j hj => by omega) hh (fun j hj => by omega), (G.grp.el _ (S.vec h hh)).symm⟩
  | succ k ih =>
    intro hk
    have hlt : k < U.length := by omega
    obtain ⟨x, z, hx, hz, hTz, rfl⟩ := ih (by omega)
    unfold nextD at hTz
    rw [if_pos hlt] at hTz
    obtain ⟨hV, hd, h1⟩ := hU.1 _ (gtMem hlt)
    have hT := dep_T hV
    have hzd := hTz.1.2 _ hd
    have hxV := S.vec x (elsP_sub S hUH k (by omega) x hx)
    have hpV := G.pw_vec hV (gt z (dep (gt U k))).toNat
    have hpT := G.pw_T (Nat.le_of_lt hd) hT (gt z (dep (gt U k))).toNat
    have hpd : gt (pw P (gt U k) (gt z (dep (gt U k))).toNat) (dep (gt U k)) = gt z (dep (gt U k)) := by
      rw [G.pw_at hd hT, h1, Int.mul_one, Int.emod_eq_of_lt (by omega) (by omega)]; omega
    have hT2 := G.diff hd hpT hTz hpd
    have hH2 : H (rMul P (rInv P (pw P (gt U k) (gt z (dep (gt U k))).toNat)) z) := S.mul _ _ (S.inv _ (S.pw (hUH _ (gtMem hlt)) _)) hz
    have hzV := S.vec z hz
    refine ⟨rMul P x (pw P (gt U k) (gt z (dep (gt U k))).toNat), _, ?_, hH2, ?_, ?_⟩
    · simp only [elsP, List.mem_flatMap, stepE, List.mem_map, List.mem_range]
      exact ⟨x, hx, _, by omega, rfl⟩
    · exact G.next_T hU S.vec hpiv (k + 1) (dep (gt U k) + 1) hk (fun j hj => by
        rcases Nat.lt_succ_iff_lt_or_eq.1 hj with h | h
        · have := hU.2 j k h hlt; omega
        · rw [h]; omega) hH2 hT2.2
    · rw [G.ass hxV hpV (G.mulV (G.invV hpV) hzV), ← G.ass hpV (G.invV hpV) hzV, G.mul_inv hpV, G.grp.el _ hzV]

theorem Grp.elsP_mem {H : List Int → Prop} {U : List (List Int)} (S : Sub P H) (hU : SeqOk P U) (hUH : ∀ z ∈ U, H z) (hpiv : ∀ x, H x → ∀ d, d < P.orders.length → T P d x → gt x d ≠ 0 → ∃ j, j < U.length ∧ dep (gt U j) = d) (h : List Int) : h ∈ elsP P U U.length ↔ H h := by
  refine ⟨elsP_sub S hUH _ (Nat.le_refl _) h, fun hh => ?_⟩
  obtain ⟨x, z, hx, hz, hTz, he⟩ := G.elsP_all S hU hUH hpiv hh U.length (Nat.le_refl _)
  unfold nextD at hTz
  rw [if_neg (by omega)] at hTz
  have hz0 : z = zeros P.orders.length := Vec.ext hTz.1 (zeros_vec G.v) (fun k hk => by rw [hTz.2 k (by have := hTz.1.1; omega)]; exact (gt_replicate _ _).symm)
  rw [he, hz0, G.grp.er _ (S.vec x (elsP_sub S hUH _ (Nat.le_refl _) x hx))]
  exact hx

/-- a canonical sequence, its subgroup -/
theorem Grp.seq_facts {H : List Int → Prop} (S : Sub P H) : SeqOk P (cseq P H) ∧ (∀ z ∈ cseq P H, H z) ∧ ∀ x, H x → ∀ d, d < P.orders.length → T P d x → gt x d ≠ 0 → ∃ j, j < (cseq P H).length ∧ dep (gt (cseq P H) j) = d := by
  obtain ⟨r, hR, he⟩ := G.cseq_spec S
  have hC : CanInv P H r r 0 := ⟨fun e _ _ => Iff.rfl, fun e _ h1 h2 => hR.mem e h1 h2, fun e e' _ h1 h2 h3 h4 => hR.red e e' h1 h2 h3 h4⟩
  rw [he, sq_all]
  refine ⟨hC.seqOk (by omega), fun z hz => ?_, fun x hx d hd hT h0 => ?_⟩
  · obtain ⟨e, _, h2, h3, rfl⟩ := mem_sq.1 hz
    exact (hR.mem e (by omega) h3).1
  · have hr := hR.piv x hx d hd hT h0
    have hm : r d ∈ sq r P.orders.length 0 := mem_sq.2 ⟨d, by omega, by omega, hr, rfl⟩
    obtain ⟨j, hj, hje⟩ := List.getElem_of_mem hm
    exact ⟨j, hj, by rw [gt_eq _ j hj, hje]; exact hC.dep (by omega) hd hr⟩

/-- the sorted list of the products is the list of the elements -/
theorem Grp.els_sorted {H : List Int → Prop} (S : Sub P H) : sortL (elsP P (cseq P H) (cseq P H).length) = elemsIn P H := by
  obtain ⟨h1, h2, h3⟩ := G.seq_facts S
  exact sort_elemsIn G.v S.vec (G.elsP_nodup h1) (G.elsP_mem S h1 h2 h3)

end

end Go.Proofs.YtldheeicjnncoaaGreat
namespace Go.Proofs.YtldheeicjnncoaaGreat
open Go.RowKit

theorem step_app (T E : Nat) (z : Value) (bytes : Nat) (hT : Tryz.prog.underlying T = some (.slice E)) (hE : (Tryz.prog.info? E).map (fun i => (i.zero, i.size, i.bytes)) = some (some z, 1, bytes))
    (hzs : z.cells.size = 1) (hbt : bytes ≤ 64) {ops : Array Oper} {o : Oper} {a : Act} {K : Act → World → Prop} {Q : Exit → Act → World → Prop} {Ex : Prop} {w : World} (hgd : o.guard = none) (s x : Operand)
    (ho : o.op = Op.call { callee := Callee.builtin Builtin.append, args := #[s, x], argTypes := #[T, T] }) (base : Nat) (v : Value) (xs : List Value) (hs : a.eval s = v) (hown : OwnV base E w v xs)
    (H : Nat) (u : Value) (hx : a.eval x = .slice (some ⟨H, 0, none⟩) 1 1) (hu : w.cell? ⟨H, 0, none⟩ = some u) (h1 : u.oneCell' = true) (hlen : xs.length ≤ 2000000) (hbase : base ≤ w.heap.size)
    (h : ∀ v' w', OwnV base E w' v' (xs ++ [u]) → w.grownBy w' v.ownBlock → (v'.ownBlock = v.ownBlock ∨ v'.ownBlock = some w.heap.size) → K (a.put o.dst v') w') :
    if Region.wanted o (yielded ops a.tmps) = true then Oper.wp Tryz.prog o a w K Q else Ex := by
  obtain ⟨i0, hi, hz0, hz1, hz2⟩ := info_parts hE
  refine step_append_lies w hgd s x T ho base E i0 z 1 bytes hT hi hz0 hz1 hz2 hzs (by decide) v xs.length xs hs hown ⟨H, 0, none⟩ 1 1 [u] hx rfl ?_ ?_ (by omega) (by unfold maxLen; omega) (by have := Nat.mul_le_mul (show xs.length + 1 ≤ 2000001 by omega) hbt; omega) hbase w.heap.size rfl ?_
  · intro j u' hj
    match j, hj with
    | 0, hj =>
      simp at hj; subst hj
      simpa [Addr.add] using hu
  · intro u' hu'
    simp at hu'; subst hu'; exact h1
  · intro g cap w' k1 k2 k3 _
    refine h _ w' ?_ k2 ?_
    · unfold OwnV; rw [List.length_append]; exact k1
    · rcases k3 with k3 | k3
      · left; rw [k3]; rfl
      · right; rw [← k3]; rfl

end Go.Proofs.YtldheeicjnncoaaGreat
namespace Go.Proofs.YtldheeicjnncoaaGreat
open Go.RowKit

theorem step_append_at {P : Program} (w : World) {ops : Array Oper} {o : Oper} {a : Act} {K : Act → World → Prop} {Q : Exit → Act → World → Prop} {Ex : Prop}
    (hg : o.guard = none) (s x : Operand) (t : TypeId) (hop : o.op = Op.call { callee := Callee.builtin Builtin.append, args := #[s, x], argTypes := #[t, t] })
    (e : TypeId) (i : TypeInfo) (z : Value) (size bytes : Nat) (h1 : P.underlying t = some (.slice e)) (h2 : P.info? e = some i) (h3 : i.zero = some z) (h4 : i.size = size) (h5 : i.bytes = bytes) (h6 : z.cells.size = size) (h7 : 0 < size)
    (b off n cap : Nat) (olds : List Value) (hs : a.eval s = .slice (some ⟨b, off, none⟩) n cap) (hlo : olds.length = n * size) (holds : ∀ j u, olds[j]? = some u → w.cell? ⟨b, off + j, none⟩ = some u)
    (ad : Addr) (m c : Nat) (news : List Value) (hx : a.eval x = .slice (some ad) m c) (hn : news.length = m * size) (hc : ∀ j u, news[j]? = some u → w.cell? (ad.add j) = some u) (h1c : ∀ u ∈ news, u.oneCell' = true)
    (hspare : n + m ≤ cap → ∀ j, j < news.length → (w.cell? ⟨b, off + n * size + j, none⟩).isSome = true ∧ w.frozen? ⟨b, off + n * size + j, none⟩ = false)
    (b1 : n + m ≤ maxLen) (b2 : (n + m) * bytes ≤ 140737488355328)
    (hroom : n + m ≤ cap → K (a.put o.dst (.slice (some ⟨b, off, none⟩) (n + m) cap)) (w.setCells b (off + n * size) news))
    (hgrow : cap < n + m → ∀ v' w', w'.ownsRow w.heap.size e size v' (n + m) (olds ++ news) → w.grownBy w' none → K (a.put o.dst v') w') :
    if Region.wanted o (yielded ops a.tmps) = true then Oper.wp P o a w K Q else Ex := by
  have hw : Region.wanted o (yielded ops a.tmps) = true := by simp [Region.wanted, hg]
  rw [if_pos hw]
  by_cases hr : n + m ≤ cap
  · subst h4
    have hrun := run_append_room_cells (P := P) w t o.type e i h1 h2 b off n cap ad m c news hn hc h1c hr (fun j hj => (hspare hr j hj).1) (fun j hj => (hspare hr j hj).2)
    unfold Oper.wp
    simp [execOp, hop, resolve, invoke, builtin, hs, hx, hrun, Result.andThen]
    exact hroom hr
  · obtain ⟨v', w', hrun, r1, r2⟩ := run_append_arg_grows (P := P) w t o.type e i z size bytes h1 h2 h3 h4 h5 h6 h7 ⟨b, off, none⟩ n cap olds hlo (fun j u hj => by rw [Addr.add_lit]; exact holds j u hj) ad m c news hn hc (by omega) b1 b2
    unfold Oper.wp
    simp [execOp, hop, resolve, invoke, builtin, hs, hx, hrun, Result.andThen]
    exact hgrow (by omega) v' w' r1 r2

theorem step_q_app (T E : Nat) (z : Value) (bytes : Nat) (hT : Tryz.prog.underlying T = some (.slice E)) (hE : (Tryz.prog.info? E).map (fun i => (i.zero, i.size, i.bytes)) = some (some z, 1, bytes))
    (hzs : z.cells.size = 1) (hbt : bytes ≤ 64) {ops : Array Oper} {o : Oper} {a : Act} {K : Act → World → Prop} {Q : Exit → Act → World → Prop} {Ex : Prop} {w : World} (hgd : o.guard = none) (s x : Operand)
    (ho : o.op = Op.call { callee := Callee.builtin Builtin.append, args := #[s, x], argTypes := #[T, T] }) (base : Nat) (v : Value) (xs : List Value) (hs : a.eval s = v) (hown : QOwn base E w v xs)
    (H : Nat) (u : Value) (hx : a.eval x = .slice (some ⟨H, 0, none⟩) 1 1) (hu : w.cell? ⟨H, 0, none⟩ = some u) (h1 : u.oneCell' = true) (hlen : xs.length ≤ 1000000) (hbase : base ≤ w.heap.size)
    (h : ∀ v' w', QOwn base E w' v' (xs ++ [u]) → w.grownBy w' v.ownBlock → (v'.ownBlock = v.ownBlock ∨ ∀ k, v'.ownBlock = some k → w.heap.size ≤ k) → K (a.put o.dst v') w') :
    if Region.wanted o (yielded ops a.tmps) = true then Oper.wp Tryz.prog o a w K Q else Ex := by
  rcases hown with ⟨rfl, rfl⟩ | ⟨g, off, cap, cur, rfl, hb, hg, hnc, hcm, hsz, hc⟩
  · refine step_app T E z bytes hT hE hzs hbt hgd s x ho base (.slice none 0 0) [] hs (World.ownsRow_nil _ _ _ _) H u hx hu h1 (by simp) hbase ?_
    intro v' w' k1 k2 k4
    exact h v' w' (QOwn.of k1) k2 (k4.imp id (fun e k hk => by rw [e] at hk; cases hk; exact Nat.le_refl _))
  · obtain ⟨i0, hi, hz0, hz1, hz2⟩ := info_parts hE
    have hgs : g < w.heap.size := (Array.getElem?_eq_some_iff.1 hg).1
    have hcell : ∀ i, i < cur.size → w.cell? ⟨g, i, none⟩ = cur[i]? := fun i _ => by
      simp only [World.cell?, hg, Option.isSome_none, Bool.false_eq_true, if_false]
    refine step_append_at w hgd s x T ho E i0 z 1 bytes hT hi hz0 hz1 hz2 hzs (by decide) g off xs.length cap xs hs (by omega) ?_ ⟨H, 0, none⟩ 1 1 [u] hx rfl ?_ ?_ ?_ (by unfold maxLen; omega) (by have := Nat.mul_le_mul (show xs.length + 1 ≤ 1000001 by omega) hbt; omega) ?_ ?_
    · intro j u' hj
      have hj2 : j < xs.length := by
        rcases Nat.lt_or_ge j xs.length with h | h
        · exact h
        · rw [List.getElem?_eq_none h] at hj; cases hj
      rw [hcell _ (by omega), hc j hj2]
      simp [gt, hj]
    · intro j u' hj
      match j, hj with
      | 0, hj =>
        simp at hj; subst hj
        simpa [Addr.add] using hu
    · intro u' hu'
      simp at hu'; subst hu'; exact h1
    · intro hroom j hj
      have : j = 0 := by simpa using hj
      subst this
      refine ⟨?_, ?_⟩
      · rw [hcell _ (by omega), Array.getElem?_eq_getElem (by omega)]; rfl
      · simp [World.frozen?, hg]
    · intro hroom
      have e : w.setCells g (off + xs.length * 1) [u] = w.setCell ⟨g, off + xs.length, none⟩ u := by
        simp [World.setCells]
      rw [e]
      refine h _ _ (.inr ⟨g, off, cap, cur.setIfInBounds (off + xs.length) u, by simp, hb, ?_, by simpa using hroom, hcm, by simpa using hsz, fun i hi => ?_⟩) ?_ (.inl rfl)
      · simp only [World.setCell, Array.getElem?_modify, if_true, hg, Option.map_some]
        simp
      · simp only [List.length_append, List.length_singleton] at hi
        by_cases ei : i = xs.length
        · subst ei
          rw [gt_concat, Array.getElem?_setIfInBounds_self]
          simp; omega
        · rw [gt_append_left _ _ _ (by omega), Array.getElem?_setIfInBounds_ne (by omega)]
          exact hc i (by omega)
      · exact ⟨rfl, rfl, rfl, by simp [World.setCell], fun k hk hne => Below.heap_setCell _ _ _ _ (by intro e2; exact hne (by rw [e2]; rfl))⟩
    · intro hgrow v' w' k1 k2
      have k3 : OwnV base E w' v' (xs ++ [u]) := by
        unfold OwnV
        rw [List.length_append]
        obtain ⟨h1', h2'⟩ := k1
        refine ⟨h1', ?_⟩
        rcases h2' with h | ⟨g', cap', cur', hv, hg', r⟩
        · exact .inl h
        · exact .inr ⟨g', cap', cur', hv, by omega, r⟩
      refine h v' w' (QOwn.of k3) (grown_of_ext _ k2) (.inr (fun k hk => ?_))
      obtain ⟨_, h2'⟩ := k1
      rcases h2' with h | ⟨g', cap', cur', rfl, hg', r⟩
      · rw [h.1] at hk; simp [Value.ownBlock] at hk
      · simp [Value.ownBlock] at hk
        omega

/-- append of one row in a region that draws: the queue as it lay in w1, the row as it lies in w2 -/
theorem step_shq_app {ops : Array Oper} {o : Oper} {a : Act} {K : Act → World → Prop} {Q : Exit → Act → World → Prop} {Ex : Prop} {w : World} (hgd : o.guard = none) (s x : Operand)
    (ho : o.op = Op.call { callee := Callee.builtin Builtin.append, args := #[s, x], argTypes := #[25, 25] }) (bad : Nat → Prop) (B : Nat) (v u : Value) (xs : List (List Int)) (y : List Int) (hs : a.eval s = v) (w0 : World) (hown : ShQ bad B w0 v xs)
    (hw : w = w0.alloc (.cells #[u] 24)) (hu : Ints (fun k => ¬ bad k ∧ v.ownBlock ≠ some k) w0 u y) (hx : a.eval x = .slice (some ⟨w0.heap.size, 0, none⟩) 1 1) (hlen : xs.length ≤ 1000000) (hbase : B ≤ w0.heap.size)
    (h : ∀ v' w', ShQ bad B w' v' (xs ++ [y]) → w0.grownBy w' v.ownBlock → (v'.ownBlock = v.ownBlock ∨ ∀ k, v'.ownBlock = some k → w0.heap.size ≤ k) → K (a.put o.dst v') w') :
    if Region.wanted o (yielded ops a.tmps) = true then Oper.wp Tryz.prog o a w K Q else Ex := by
  subst hw
  obtain ⟨vs, hl, hq, hr⟩ := hown
  have hga : Ext w0 (w0.alloc (.cells #[u] 24)) := World.grownBy_alloc _ _ _
  have hlt := hq.lt
  have hq2 : QOwn B 24 (w0.alloc (.cells #[u] 24)) v vs := hq.kept (fun k hk => hga.block k (hlt k hk).2 (by simp))
  have hone : u.oneCell' = true := rdInts.one hu
  refine step_q_app 25 24 (.slice none 0 0) 24 und_rows Tryz.infoRow rfl (by decide) hgd s x ho B v vs hs hq2 w0.heap.size u hx (by rw [World.cell?_alloc_at _ _ _ _ rfl]; rfl) hone (by omega) (by have := hga.size; omega) ?_
  intro v' w' h1 h2 h3
  have hg2 : w0.grownBy w' v.ownBlock := grown_trans (grown_of_ext _ hga) h2
  have hnew : ∀ k, k < w0.heap.size → v'.ownBlock = some k → v.ownBlock = some k := fun k hk e => by
    rcases h3 with h | h
    · rw [← h]; exact e
    · have := h k e; simp at this; omega
  refine h v' w' ⟨vs ++ [u], by simp [hl], h1, fun i hi => ?_⟩ hg2 (h3.imp id (fun h k hk => by have := h k hk; simp at this; omega))
  simp only [List.length_append, List.length_singleton] at hi
  have hfr : ∀ k, (¬ bad k ∧ v.ownBlock ≠ some k) → k < w0.heap.size → (¬ bad k ∧ v'.ownBlock ≠ some k) ∧ k < w'.heap.size ∧ w'.heap[k]? = w0.heap[k]? := fun k hk hlt =>
    ⟨⟨hk.1, fun e => hk.2 (hnew k hlt e)⟩, Nat.lt_of_lt_of_le hlt hg2.size, hg2.block k hlt (fun e => hk.2 e.symm)⟩
  by_cases hlt : i < xs.length
  · rw [gt_append_left _ _ _ (by omega), gt_append_left _ _ _ hlt]
    exact Ints.mono (hr i hlt) hfr
  · have hi2 : i = xs.length := by omega
    subst hi2
    rw [gt_concat, ← hl, gt_concat]
    exact Ints.mono hu hfr

/-- v[l:] at a list of rows -/
theorem run_tail_rows (w : World) (a : Option Addr) (n cap : Nat) (k : Int) (h0 : 0 ≤ k) (h1 : k ≤ n) :
    (Instr.slice 25 (.slice a n cap) (some (.int .i64 k)) none none).run Tryz.prog w = .ok (subSl (.slice a n cap) k.toNat n) w := by
  rw [run_slice_l w 25 a n cap (by kernel_rfl) .i64 k h0 h1]
  have : (sizeOf (Tryz.prog.elem 25)).run Tryz.prog w = .ok 1 w := by kernel_rfl
  rw [this]
  simp [Result.andThen, sliced, subSl]

/-- the cells of a slice as a list -/
theorem Sl.vals {α : Type} [Inhabited α] {El : World → Value → α → Prop} {S : Nat → Prop} {w : World} {a : Option Addr} {n cap : Nat} {xs : List α} (h : Sl El S w (.slice a n cap) xs) :
    ∃ vs : List Value, vs.length = xs.length ∧ ∀ i, i < xs.length → (∃ b off, a = some ⟨b, off, none⟩ ∧ w.cell? ⟨b, off + i, none⟩ = some (gt vs i)) ∧ El w (gt vs i) (gt xs i) := by
  have h1 : ∀ i, ∃ u, i < xs.length → (∃ b off, a = some ⟨b, off, none⟩ ∧ w.cell? ⟨b, off + i, none⟩ = some u) ∧ El w u (gt xs i) := fun i => by
    by_cases hi : i < xs.length
    · obtain ⟨b, off, u, h1, _, _, h4, h5⟩ := h.at i hi
      exact ⟨u, fun _ => ⟨⟨b, off, h1, h4⟩, h5⟩⟩
    · exact ⟨undef, fun h => absurd h hi⟩
  obtain ⟨f, hf⟩ := Classical.axiomOfChoice h1
  refine ⟨(List.range xs.length).map f, by simp, fun i hi => ?_⟩
  have e : gt ((List.range xs.length).map f) i = f i := by simp [gt, hi]
  rw [e]
  exact hf i hi

set_option maxHeartbeats 400000 in
/-- slices.Clone at a list of rows: a new list of the same rows -/
theorem cloneRows_ok (w : World) (v : Value) (xs : List (List Int)) (S bad : Nat → Prop) (hv : Rows2 S w v xs) (hS : ∀ k, S k → k < w.heap.size → ¬ bad k) (hl : xs.length ≤ 1000000) :
    Calls Tryz.prog 157 #[v] w (Ret w fun w' r => ShQ bad w.heap.size w' r xs) := by
  obtain ⟨a, cap, rfl, _, _⟩ := Sl.shape hv
  have he := fun n => Lib.run_eql_slice_nil (P := Tryz.prog) w 25 24 a n cap 0 0 (by kernel_rfl)
  cases a with
  | none =>
    obtain ⟨rfl, rfl⟩ := Sl.nil_of_none hv
    clear hv hl
    go_enter Tryz.func157, Tryz.ntmps157
    go_wp2_with fail
    go_ret
    exact ⟨_, rfl, Ext.refl _, ShQ.nil _ _ _⟩
  | some a =>
    obtain ⟨vs, hvl, hvs⟩ := Sl.vals hv
    have hnews : ∀ w', Ext w w' → ∀ j, j < xs.length → ∃ b off, some a = some ⟨b, off, none⟩ ∧ w'.cell? ⟨b, off + j, none⟩ = some (gt vs j) := fun w' hg j hj => by
      obtain ⟨⟨b, off, h1, h2⟩, _⟩ := hvs j hj
      exact ⟨b, off, h1, hg.cell h2 (by simp)⟩
    have h1 : ∀ u, u ∈ vs → u.oneCell' = true := fun u hu => by
      obtain ⟨j, hj, rfl⟩ := List.getElem_of_mem hu
      rw [← gt_eq vs j hj]
      exact rdInts.one (hvs j (by omega)).2
    have hcl : ∀ (w1 : World) (v' : Value), OwnV w.heap.size 24 w1 v' vs → Ext w w1 → ShQ bad w.heap.size w1 v' xs := fun w1 v' ho hg => by
      refine ⟨vs, hvl, QOwn.of ho, fun i hi => Ints.mono (hvs i hi).2 (fun k hk hlt => ⟨⟨hS k hk hlt, fun e => ?_⟩, Nat.lt_of_lt_of_le hlt hg.size, hg.block k hlt (by simp)⟩)⟩
      have := (ho.lt k e).1; omega
    have HC := Lib.hid (And.intro hnews (And.intro h1 hcl)); clear hnews h1 hcl hvs
    go_enter Tryz.func157, Tryz.ntmps157
    go_wp2_with (at_builtin; refine wp_app 25 24 (.slice none 0 0) 24 und_rows Tryz.infoRow rfl (by decide) rfl _ _ rfl w.heap.size _ [] rfl (World.ownsRow_lit w #[] 0 (Nat.le_refl _) (by decide) rfl) (some a) xs.length cap vs rfl hvl (by simp) (HC.out.1 _ (World.grownBy_alloc _ _ _)) HC.out.2.1 (by simp; omega) (by simp) ?_; intro v' w1 ho1 hg1 hn1 hb1)
    go_ret
    have hg : Ext w w1 := grown_own (World.grownBy_alloc _ _ _) hg1 (fun j hj hlt => by have := own_blk hj; omega)
    exact ⟨_, rfl, hg, HC.out.2.2 w1 v' (by simpa using ho1) hg⟩

end Go.Proofs.YtldheeicjnncoaaGreat
namespace Go.Proofs.YtldheeicjnncoaaGreat
open Go.RowKit

theorem OwnV.weak {B B' E : Nat} {w : World} {v : Value} {vs : List Value} (h : OwnV B E w v vs) (hb : B' ≤ B) : OwnV B' E w v vs := by
  obtain ⟨h1, h2⟩ := h
  refine ⟨h1, ?_⟩
  rcases h2 with h | ⟨g, cap, cur, hv, hg, r⟩
  · exact .inl h
  · exact .inr ⟨g, cap, cur, hv, Nat.le_trans hb hg, r⟩

/-- append([]T{row}, rows...): the row made since -/
theorem wp_prep_row {ops : Array Oper} {rest : List Oper} {o : Oper} {a : Act} {Q : Exit → Act → World → Prop} {w : World} (hgd : o.guard = none) (s x : Operand)
    (ho : o.op = Op.call { callee := Callee.builtin Builtin.append, args := #[s, x], argTypes := #[25, 25] }) (B : Nat) (w1 w2 : World) (v u : Value) (xs : List (List Int)) (y : List Int) (hown : RowsO B w1 v xs) (hB : B ≤ w1.heap.size)
    (hg : Ext w1 w2) (hu : OwnIn (From w1.heap.size) w2 u y) (hw : w = w2.alloc (.cells #[u] 24)) (hs : a.eval s = .slice (some ⟨w2.heap.size, 0, none⟩) 1 1) (hx : a.eval x = v) (hlen : xs.length ≤ 1000000)
    (h : ∀ v' w', RowsO B w' v' (y :: xs) → Ext w1 w' → wpList Tryz.prog ops Q rest (a.put o.dst v') w') :
    wpList Tryz.prog ops Q (o :: rest) a w := by
  subst hw
  obtain ⟨vs, F, hvl, hO, hG, hd, hEx⟩ := hown
  have hga : Ext w2 (w2.alloc (.cells #[u] 24)) := World.grownBy_alloc _ _ _
  have hg1a := grown_trans hg hga
  have hO2 : OwnV B 24 (w2.alloc (.cells #[u] 24)) v vs := hO.kept hg1a (by cases hv : v.ownBlock <;> simp)
  have hlit : OwnV w2.heap.size 24 (w2.alloc (.cells #[u] 24)) (.slice (some ⟨w2.heap.size, 0, none⟩) 1 1) [u] := World.ownsRow_lit w2 #[u] 1 (Nat.le_refl _) (by decide) rfl
  have hsz := hg.size
  have hshape : ∃ sa c, v = .slice sa vs.length c ∧ (sa = none → c = 0) ∧ ∀ j, j < vs.length → ∃ b off, sa = some ⟨b, off, none⟩ ∧ (w2.alloc (.cells #[u] 24)).cell? ⟨b, off + j, none⟩ = some (gt vs j) := by
    rcases hO2.form with ⟨rfl, h2⟩ | ⟨g, cp, rfl, _⟩
    · exact ⟨none, 0, by rw [h2]; rfl, fun _ => rfl, fun j hj => by rw [h2] at hj; simp at hj⟩
    · exact ⟨_, _, rfl, fun h => by simp at h, fun j hj => ⟨g, 0, rfl, by rw [Nat.zero_add]; exact hO2.cell j hj⟩⟩
  obtain ⟨sa, c, hv, hc0, hcells⟩ := hshape
  refine wp_app 25 24 (.slice none 0 0) 24 und_rows Tryz.infoRow rfl (by decide) hgd s x ho w2.heap.size _ [u] hs hlit sa vs.length c vs (hx.trans hv) rfl hc0 hcells ?_ (by simp; omega) hga.size ?_
  · intro u' hu'
    obtain ⟨j, hj, rfl⟩ := List.getElem_of_mem hu'
    rw [← gt_eq vs j hj]
    exact rdOwn.one (hEx j (by omega))
  · intro v' w' k1 k2 _ _
    have hg2 : Ext w2 w' := grown_own hga k2 (fun j hj hlt => by have := own_blk hj; omega)
    have hg1 := grown_trans hg hg2
    have hv'b : ∀ k, v'.ownBlock = some k → w2.heap.size ≤ k := fun k hk => (k1.lt k hk).1
    refine h v' w' ⟨[u] ++ vs, fun i k => if i = 0 then w1.heap.size ≤ k ∧ k < w2.heap.size else F (i - 1) k ∧ k < w1.heap.size, by simp [hvl], ?_, ?_, ?_, ?_⟩ hg1
    · exact OwnV.weak k1 (by omega)
    · intro i k hi hk
      split at hk
      · exact ⟨by omega, fun e => by have := hv'b k e; omega, Nat.lt_of_lt_of_le hk.2 hg2.size⟩
      · rename_i h0
        simp only [List.length_cons] at hi
        obtain ⟨a1, a2, a3⟩ := hG (i - 1) k (by omega) hk.1
        exact ⟨a1, fun e => by have := hv'b k e; omega, Nat.lt_of_lt_of_le a3 hg1.size⟩
    · intro i j k hi hj hk hk'
      simp only [List.length_cons] at hi hj
      split at hk <;> split at hk'
      · omega
      · omega
      · omega
      · have := hd (i - 1) (j - 1) k (by omega) (by omega) hk.1 hk'.1; omega
    · intro i hi
      simp only [List.length_cons] at hi
      by_cases h0 : i = 0
      · subst h0
        simp only [if_true]
        exact rdOwn.mono hu (fun k hk hkl => ⟨⟨hk, hkl⟩, Nat.lt_of_lt_of_le hkl hg2.size, hg2.block k hkl (by simp)⟩)
      · simp only [if_neg h0]
        have e1 : gt ([u] ++ vs) i = gt vs (i - 1) := by
          obtain ⟨j, rfl⟩ : ∃ j, i = j + 1 := ⟨i - 1, by omega⟩
          simp [gt]
        have e2 : gt (y :: xs) i = gt xs (i - 1) := by
          obtain ⟨j, rfl⟩ : ∃ j, i = j + 1 := ⟨i - 1, by omega⟩
          simp [gt]
        rw [e1, e2]
        exact rdOwn.mono (hEx (i - 1) (by omega)) (fun k hk hkl => ⟨⟨hk, hkl⟩, Nat.lt_of_lt_of_le hkl hg1.size, hg1.block k hkl (by simp)⟩)

set_option maxRecDepth 100000 in
set_option maxHeartbeats 1000000 in
theorem canonical_ok (P : Pr) (G : Grp P) (w : World) (sb gb B : Nat) (p : Value) (b : List (List Int)) (H : List Int → Prop) (Sp bad : Nat → Prop) (hp : PresP Sp w p P) (hs : SeqAt B bad w sb gb p P.orders.length b) (hI : Ind P H (gt b)) :
    Calls Tryz.prog 203 #[.pointer (some ⟨sb, 0, none⟩)] w (Ret w fun w' v => RowsO w.heap.size w' v (cseq P H)) := by
  have hP := G.v
  have hn6 := hP.n6
  obtain ⟨pb, po, rfl⟩ := hp.shape
  have hc0 := hs.c0
  have hc1 := hs.c1
  have HI := Lib.hid hI; clear hI
  have hwn : IntKind.i64.wrap ((P.orders.length : Int) - 1) = (P.orders.length : Int) - 1 := IntWalk.i64_in _ (by omega)
  go_enter Tryz.func203, Tryz.ntmps203
  go_wp2
  clear hwn
  go_loopw [3, 4] (fun ov dv wr => ∃ (m : Nat) (r : Nat → List Int) (v4 : Value), v4 = ov ∧ dv = .int .i64 ((m : Int) - 1) ∧ m ≤ P.orders.length ∧ Ext w wr ∧ RowsO w.heap.size wr v4 (sq r (P.orders.length - m) m) ∧ Hid (CanInv P H (gt b) r m)) (fun _ dv _ => (intOf dv + 1).toNat)
  case atStart => exact ⟨P.orders.length, fun _ => [], _, rfl, rfl, Nat.le_refl _, Ext.refl _, by rw [Nat.sub_self]; exact SlO.nil _ _ _ _, Lib.hid ⟨fun e h1 h2 => by omega, fun e h1 h2 => by omega, fun e e' h1 h2 h3 => by omega⟩⟩
  case round =>
    obtain ⟨m, r, v4, rfl, rfl, hm, hg, hO, hC⟩ := hrel
    clear hc0 hc1
    by_cases hm0 : m = 0
    · subst hm0
      have hsl := sq_len r P.orders.length 0
      rw [G.can_end HI.out hC.out] at hsl
      rw [Nat.sub_zero, G.can_end HI.out hC.out] at hO
      have hneg : ((0 : Nat) : Int) - 1 = -1 := rfl
      rw [hneg]
      obtain ⟨az, capz, rfl, _⟩ := SlD.shape (hO.toD (by omega))
      go_wp2
      go_ret
      exact ⟨_, rfl, hg, hO⟩
    · obtain ⟨d, rfl⟩ : ∃ d, m = d + 1 := ⟨m - 1, by omega⟩
      obtain ⟨k, hk⟩ : ∃ k, k = P.orders.length - (d + 1) := ⟨_, rfl⟩
      rw [← hk] at hO
      have hkn : d + 1 + k = P.orders.length := by omega
      have hkd : P.orders.length - d = k + 1 := by omega
      rw [show (((d + 1 : Nat)) : Int) - 1 = d by omega]
      have hdn : (d : Int) < P.orders.length := by omega
      have hd0 : (0 : Int) ≤ d := by omega
      have hwd : IntKind.i64.wrap ((d : Int) - 1) = (d : Int) - 1 := IntWalk.i64_in _ (by omega)
      have hsr := hs.ext hg
      have hc0 := hsr.c0
      have hc1 := hsr.c1
      have hsl := sq_len r k (d + 1)
      have hk6 : k ≤ 6 := by omega
      have HK := Lib.hid (And.intro hkn hkd); clear hkn hkd hk hm0
      obtain ⟨_, hcc⟩ := hsr.tab.at d (by omega)
      rcases hcc with ⟨h0, hcell⟩ | ⟨hne, ab, capb, hcell, hbI⟩
      · obtain ⟨hC2, hq2⟩ := can_skip (k := k) hC.out h0
        have HC2 := Lib.hid (And.intro hC2 hq2); clear hC2 hq2 h0
        go_wp2
        go_roundw
        case rel => exact ⟨d, _, v4, rfl, rfl, by omega, hg, by rw [HK.out.2, HC2.out.2]; exact hO, Lib.hid HC2.out.1⟩
        case measure => simp [intOf]
      · have hO4 := hO.toD (by omega)
        obtain ⟨az, capz, hvz, _, _⟩ := SlD.shape hO4
        subst hvz
        have hU := RowsD.rows hO4
        have hSq := hC.out.seqOk HK.out.1
        have hbm := (HI.out.mem d (by omega) hne).2.1.1
        have hpr := hp.ext hg
        have HX := Lib.hid (And.intro hSq (And.intro hbm hne)); clear hSq hbm hne
        have e1 : ∀ w', Ext wr w' → w'.cell? ⟨sb, 0, none⟩ = some (.pointer (some ⟨pb, po, none⟩)) := fun w' h => h.cell hc0 (by simp)
        have e2 : ∀ w', Ext wr w' → w'.cell? ⟨sb, 1, none⟩ = some (.slice (some ⟨gb, 0, none⟩) P.orders.length P.orders.length) := fun w' h => h.cell hc1 (by simp)
        have e3 : ∀ w', Ext wr w' → w'.cell? ⟨gb, d, none⟩ = some (.slice (some ab) (gt b d).length capb) := fun w' h => h.cell hcell (by simp)
        go_wp2
        go_region_held3 (fun w' => Ext wr w') (first | exact grown_drew _ _ | assumption)
          (first
            | (go_at_call 224; refine Calls.mono (Calls.rel (w0 := wr) (by assumption) (representative_ok P G _ _ _ _ (sq r k (d + 1)) (gt b d) Any Any Any (PresP.sub (PresP.ext hpr (by assumption)) (fun _ _ _ => trivial)) (Rows2.sub (Rows2.ext hU (by assumption)) (fun _ _ _ => trivial)) HX.out.1 (by omega) (Ints.sub (Ints.ext hbI (by assumption)) (fun _ _ _ => trivial)) HX.out.2.1)) ?_; rintro eY wY ⟨yv, rfl, hgY, hsY, Y, hOY, hRY⟩))
        have hYl : Y.length ≤ 6 := by rw [hRY.vec.1]; omega
        obtain ⟨hC2, hq2⟩ := G.can_step HI.out hC.out HK.out.1 HX.out.2.2 hRY
        have HC2 := Lib.hid (And.intro hC2 hq2); clear hC2 hq2
        have hYO : OwnIn (From wr.heap.size) wY yv Y := OwnIn.of hOY (by omega) (fun j h1 _ => Nat.le_trans hsY h1)
        obtain ⟨ay, capy, hvy, _, _⟩ := hYO.ints.shape
        subst hvy
        clear e1 e2 e3 hcell hc0 hc1 hRY
        go_wp2_with (first | (at_builtin; refine wp_prep_row rfl _ _ rfl w.heap.size wr wY _ _ (sq r k (d + 1)) Y hO hg.size hgY hYO rfl rfl rfl (by omega) ?_; intro v5 w5 hO5 hg5) | fail)
        go_roundw
        case rel => exact ⟨d, _, v5, rfl, rfl, by omega, grown_trans hg hg5, by rw [HK.out.2, HC2.out.2]; exact hO5, Lib.hid HC2.out.1⟩
        case measure => simp [intOf]

end Go.Proofs.YtldheeicjnncoaaGreat
namespace Go.Proofs.YtldheeicjnncoaaGreat
open Go.RowKit

theorem inverseMod_ret (a m : Int) (w : World) (hm : m = 2 ∨ m = 3 ∨ m = 5 ∨ m = 7) (h1 : 1 ≤ a) (h2 : a < m) :
    Calls Tryz.prog 126 #[.int .i64 a, .int .i64 m] w (Ret w fun _ v => ∃ k : Int, v = .tuple #[.int .i64 k, .bool true] ∧ 0 ≤ k ∧ k < m ∧ (k * a) % m = 1) :=
  (inverseMod_ok a m w hm h1 h2).mono (by rintro e w' ⟨⟨k, rfl, h⟩, rfl⟩; exact ⟨_, rfl, Ext.refl _, k, rfl, h⟩)

theorem q_kept {bad : Nat → Prop} {wI w2 : World} {v1 v2 : Value} (hg2 : wI.grownBy w2 v1.ownBlock) (hb2 : v2.ownBlock = v1.ownBlock ∨ ∀ k, v2.ownBlock = some k → wI.heap.size ≤ k) :
    ∀ k, (¬ bad k ∧ v1.ownBlock ≠ some k) → k < wI.heap.size → (¬ bad k ∧ v2.ownBlock ≠ some k) ∧ k < w2.heap.size ∧ w2.heap[k]? = wI.heap[k]? := fun k hk hlt =>
  ⟨⟨hk.1, fun e => by
    rcases hb2 with h | h
    · exact hk.2 (by rw [← h]; exact e)
    · have := h k e; omega⟩, Nat.lt_of_lt_of_le hlt hg2.size, hg2.block k hlt (fun e => hk.2 e.symm)⟩

theorem seq_kept {B sb gb n W : Nat} {pv : Value} {wI w2 : World} {v1 v2 : Value} {b : List (List Int)} (h : SeqAt B (fun k => v1.ownBlock = some k) wI sb gb pv n b) (hv : ∀ k, v1.ownBlock = some k → W ≤ k) (hgb : gb < W) (hsb : sb < W)
    (hg2 : wI.grownBy w2 v1.ownBlock) (hb2 : v2.ownBlock = v1.ownBlock ∨ ∀ k, v2.ownBlock = some k → wI.heap.size ≤ k) : SeqAt B (fun k => v2.ownBlock = some k) w2 sb gb pv n b := by
  refine h.kept hg2.size (fun k hk hc => hg2.block k hk (fun e => ?_)) (fun k hk e => ?_)
  · rcases hc with rfl | rfl | hc
    · have := hv _ e.symm; omega
    · have := hv _ e.symm; omega
    · exact hc e.symm
  · rcases hb2 with h | h
    · rw [← h]; exact e
    · have := h k e; omega

def AddPost (P : Pr) (H : List Int → Prop) (L b b' : List (List Int)) (g : Bool) : Prop :=
  Ind P (genP P (fun x => H x ∨ x ∈ L)) (gt b') ∧ (g = false → b' = b) ∧ (g = true → miss b' P.orders.length < miss b P.orders.length)

def AddSt (P : Pr) (H : List Int → Prop) (L b b' q : List (List Int)) (g : Bool) : Prop :=
  (∃ R, AddInv P (fun x => H x ∨ x ∈ L) (gt b') q R) ∧ (g = false → b' = b) ∧ (g = true → miss b' P.orders.length < miss b P.orders.length) ∧ miss b' P.orders.length ≤ miss b P.orders.length

set_option maxRecDepth 100000 in
set_option maxHeartbeats 2000000 in
theorem add_ok (P : Pr) (G : Grp P) (w : World) (sb gb B : Nat) (p lv : Value) (L b : List (List Int)) (H : List Int → Prop) (hp : PresP (fun k => k ≠ gb) w p P) (hs : SeqAt B (fun _ => False) w sb gb p P.orders.length b) (hI : Ind P H (gt b))
    (hL : ∀ x ∈ L, Vec P.orders x) (hl : Rows2 (fun k => ¬ (k = gb ∨ k = sb)) w lv L) (hlen : L.length ≤ 10000) :
    Calls Tryz.prog 201 #[.pointer (some ⟨sb, 0, none⟩), lv] w fun e w' => ∃ b' g, e = .returned (.bool g) ∧ w.grownBy w' (some gb) ∧ SeqAt B (fun _ => False) w' sb gb p P.orders.length b' ∧ AddPost P H L b b' g := by
  have hP := G.v
  have hn6 := hP.n6
  obtain ⟨pb, po, rfl⟩ := hp.shape
  obtain ⟨ao, capo, hco0, hoi⟩ := hp.ordAt
  obtain ⟨_, _, _, hpb, hpbl, _⟩ := hp.at
  have hgbs := hs.tab.lt
  have hpw : ∀ w', w.grownBy w' (some gb) → PresP (fun k => k ≠ gb) w' (.pointer (some ⟨pb, po, none⟩)) P := fun w' h => hp.mono (frame_of h (fun k hk _ => ⟨hk, fun e => hk (Option.some.inj e).symm⟩))
  have hc0w : ∀ w', w.grownBy w' (some gb) → w'.cell? ⟨sb, 0, none⟩ = some (.pointer (some ⟨pb, po, none⟩)) := fun w' h => (World.cell?_of_block (h.block sb hs.slt (by simpa using hs.ne))).trans hs.c0
  have hc1w : ∀ w', w.grownBy w' (some gb) → w'.cell? ⟨sb, 1, none⟩ = some (.slice (some ⟨gb, 0, none⟩) P.orders.length P.orders.length) := fun w' h => (World.cell?_of_block (h.block sb hs.slt (by simpa using hs.ne))).trans hs.c1
  have hc2w : ∀ w', w.grownBy w' (some gb) → w'.cell? ⟨pb, po, none⟩ = some (.slice ao P.orders.length capo) := fun w' h => (World.cell?_of_block (h.block pb hpbl (by simpa using hpb))).trans hco0
  have HW := Lib.hid (And.intro hpw (And.intro hc0w (And.intro hc1w hc2w))); clear hpw hc0w hc1w hc2w hco0
  have HI := Lib.hid (And.intro hI hL); clear hI hL
  go_enter Tryz.func201, Tryz.ntmps201
  go_wp2_with fail
  refine Calls.mono (cloneRows_ok w lv L _ (fun k => k = gb ∨ k = sb) hl (fun k hk _ => hk) (by omega)) ?_
  rintro e0 w0 ⟨qv0, rfl, hg0, hq0⟩
  go_wp2
  go_loopg [5, 6] (miss b P.orders.length * (P.orders.length + 3) + L.length) (fun gk gv qv wr => ∃ (b' q : List (List Int)) (g : Bool), gk ≤ 20000 ∧ gk = miss b' P.orders.length * (P.orders.length + 3) + q.length ∧ gv = .bool g ∧ w.grownBy wr (some gb) ∧
    SeqAt B (fun k => qv.ownBlock = some k) wr sb gb (.pointer (some ⟨pb, po, none⟩)) P.orders.length b' ∧ ShQ (fun k => k = gb ∨ k = sb) w.heap.size wr qv q ∧ Hid (AddSt P H L b b' q g))
  case atStart =>
    have hk0 : miss b P.orders.length * (P.orders.length + 3) + L.length ≤ 20000 := by
      have h3 : miss b P.orders.length * (P.orders.length + 3) ≤ 6 * 9 := Nat.mul_le_mul (by have := miss_le b P.orders.length; omega) (by omega)
      omega
    exact ⟨b, L, false, hk0, rfl, rfl, grown_of_ext _ hg0, hs.kept hg0.size (fun k hk _ => hg0.block k hk (by simp)) (fun k hk h => by have := (hq0.lt k h).1; omega), hq0, Lib.hid ⟨⟨_, G.addInv_start HI.out.1 HI.out.2⟩, fun _ => rfl, by simp, Nat.le_refl _⟩⟩
  case round =>
    obtain ⟨b', q, g, hgkb, hgk, rfl, hg, hsq, hq, hSt⟩ := hrel
    cases q with
    | nil =>
      obtain ⟨aq, capq, rfl, _⟩ := hq.shape
      go_wp2
      go_ret
      exact ⟨b', g, rfl, hg, hsq.kept (Nat.le_refl _) (fun _ _ _ => rfl) (fun _ _ h => h.elim), by obtain ⟨⟨R, hA⟩, h2, h3, _⟩ := hSt.out; exact ⟨G.addInv_end hA, h2, h3⟩⟩
    | cons y q =>
      obtain ⟨aq, capq, rfl, _⟩ := hq.shape
      obtain ⟨gq, off, u, rfl, hgB, hglt, hcell, hyI⟩ := ShQ.head hq 0 (by simp)
      obtain ⟨m, hm⟩ : ∃ m, m = (y :: q).length := ⟨_, rfl⟩
      rw [← hm] at hq hgk ⊢
      have hm1 : m = q.length + 1 := by rw [hm]; rfl
      have hyI : Ints (fun k => ¬ (k = gb ∨ k = sb) ∧ k ≠ gq) wr u y := hyI
      obtain ⟨ay, capy, rfl, _, _⟩ := hyI.shape
      have hmb : m ≤ 20000 := by omega
      have hc0 := HW.out.2.1 wr hg
      have hc1 := HW.out.2.2.1 wr hg
      rw [Nat.add_zero] at hcell
      have hmi : (0 : Int) < m := by omega
      have HM := Lib.hid (And.intro hgk (And.intro hm hm1)); clear hgk hm hm1
      have hyV : Vec P.orders y := by obtain ⟨⟨R, hA⟩, _⟩ := hSt.out; exact hA.vec _ (hA.que _ List.mem_cons_self)
      have htab : ∀ d, d < P.orders.length → gt b' d ≠ [] → T P d (gt b' d) ∧ gt (gt b' d) d = 1 := by obtain ⟨⟨R, hA⟩, _⟩ := hSt.out; exact fun d hd h => (hA.tab d hd h).2
      have HT := Lib.hid (And.intro hyV htab); clear hyV htab
      go_wp2_with fail
      refine Calls.mono (sift_ok P G wr sb gb B _ _ y b' _ _ _ (HW.out.1 wr hg) hsq HT.out.2 hyI HT.out.1) ?_
      rintro e1 w1 ⟨xv, rfl, hg1, Y, hYI, hYV, hYd, hΦ⟩
      have hgw1 := grown_trans hg (grown_of_ext (some gb) hg1)
      have hSt1 : Hid (AddSt P H L b b' (Y :: q) g) := by
        obtain ⟨⟨R, hA⟩, h2⟩ := hSt.out
        exact Lib.hid ⟨G.sift_add hA hΦ, h2⟩
      clear hΦ hSt hc0 hc1 hcell
      have hq1t : ShQ (fun k => k = gb ∨ k = sb) w.heap.size w1 (subSl (.slice (some ⟨gq, off, none⟩) m capq) 1 m) q := (hq.ext hg1).tail
      have hrt := run_tail_rows w1 (some ⟨gq, off, none⟩) m capq 1 (by omega) (by omega)
      have hown1 : ∀ k, (subSl (.slice (some ⟨gq, off, none⟩) m capq) 1 m).ownBlock = some k → k = gq := fun k hk => by
        have h3 := QOwn.own_tail k hk
        simp [Value.ownBlock] at h3; exact h3.symm
      rw [show (1 : Int).toNat = 1 from rfl] at hrt
      generalize subSl (.slice (some ⟨gq, off, none⟩) m capq) 1 m = qv1 at hq1t hrt hown1
      have hsq1 : SeqAt B (fun k => qv1.ownBlock = some k) w1 sb gb (.pointer (some ⟨pb, po, none⟩)) P.orders.length b' := (hsq.ext hg1).kept (Nat.le_refl _) (fun _ _ _ => rfl) (fun k _ h => by rw [hown1 k h]; rfl)
      have hYI2 : Ints (fun k => ¬ (k = gb ∨ k = sb) ∧ qv1.ownBlock ≠ some k) w1 xv Y := Ints.sub hYI (fun k hk _ => by
        have h1 := hs.slt
        have h2 := hg.size
        rcases hk with hk | hk
        · exact ⟨hk.1, fun e => hk.2 (hown1 k e)⟩
        · exact ⟨by omega, fun e => by have := hown1 k e; omega⟩)
      obtain ⟨a1, cap1, rfl, _⟩ := hq1t.shape
      obtain ⟨ax, capx, hv, _, _⟩ := hYI2.shape
      rw [hYV.1] at hv
      subst hv
      clear hsq hq hyI hYI hown1
      have HY := Lib.hid (And.intro hYV hYd); clear hYV hYd
      by_cases hdn : dep Y = P.orders.length
      · have hSt2 : Hid (AddSt P H L b b' q g) := by
          obtain ⟨⟨R, hA⟩, h2⟩ := hSt1.out
          exact Lib.hid ⟨⟨R, addInv_drop hA ((dep_top hP HY.out.1).1 hdn)⟩, h2⟩
        clear hSt1
        go_wp2_with (go_at_call 286; refine Calls.mono (depthOf_ok _ Y w1 _ hYI2) ?_; rintro eD wD ⟨rfl, rfl⟩)
        go_roundg (gk - 1)
        case measure => have := HM.out; omega
        case rel => exact ⟨b', q, g, by omega, by have := HM.out; omega, rfl, hgw1, hsq1, hq1t, hSt2⟩
      · have hd : dep Y < P.orders.length := by have := dep_le Y; have := HY.out.1.1; omega
        have hTY := dep_T HY.out.1
        have hy0 := dep_ne (x := Y) (by rw [HY.out.1.1]; exact hd)
        have hb0 := HY.out.2 hd
        obtain ⟨d, hde⟩ : ∃ d, d = dep Y := ⟨_, rfl⟩
        rw [← hde] at hd hTY hy0 hb0 hdn
        have ho := hP.ord7 d hd
        have hpr := hP.ord d hd
        have hyd := hTY.1.2 d hd
        have hyd1 : 1 ≤ gt Y d := by omega
        obtain ⟨bx, ox, rfl, _, _, hcx⟩ := Ints.at hYI2 d (by rw [HY.out.1.1]; exact hd)
        obtain ⟨b2, off2, rfl, hb2, hlt2, hcord⟩ := Ints.at hoi d hd
        have c1 : ∀ w', w.grownBy w' (some gb) → w'.cell? ⟨b2, off2 + d, none⟩ = some (.int .i64 (gt P.orders d)) := fun w' h => (World.cell?_of_block (h.block b2 hlt2 (by simpa using hb2))).trans hcord
        have HD := Lib.hid (And.intro hde (And.intro hTY (And.intro hb0 (And.intro c1 (And.intro hpr hdn))))); clear hTY hy0 hb0 c1 hpr hcord hdn
        have e1 : ∀ w', Ext w1 w' → w'.cell? ⟨sb, 0, none⟩ = some (.pointer (some ⟨pb, po, none⟩)) := fun w' h => HW.out.2.1 w' (grown_trans hgw1 (grown_of_ext _ h))
        have e2 : ∀ w', Ext w1 w' → w'.cell? ⟨pb, po, none⟩ = some (.slice (some ⟨b2, off2, none⟩) P.orders.length capo) := fun w' h => HW.out.2.2.2 w' (grown_trans hgw1 (grown_of_ext _ h))
        have e3 : ∀ w', Ext w1 w' → w'.cell? ⟨b2, off2 + d, none⟩ = some (.int .i64 (gt P.orders d)) := fun w' h => HD.out.2.2.2.1 w' (grown_trans hgw1 (grown_of_ext _ h))
        have e4 : ∀ w', Ext w1 w' → w'.cell? ⟨bx, ox + d, none⟩ = some (.int .i64 (gt Y d)) := fun w' h => h.cell hcx (by simp)
        have q1 : (d : Int) < P.orders.length := by omega
        have q2 : (0 : Int) ≤ d := by omega
        have q3 : ((d : Int) == (P.orders.length : Int)) = false := by simp; omega
        have hdc : Calls Tryz.prog 286 #[.slice (some ⟨bx, ox, none⟩) P.orders.length capx] w1 (fun e w' => e = .returned (.int .i64 d) ∧ w1 = w') := by rw [hde]; exact depthOf_ok _ Y w1 _ hYI2
        clear hde
        go_wp2_with (go_at_call 286; refine Calls.mono hdc ?_; rintro eD wD ⟨rfl, rfl⟩)
        go_region_held3 (fun w' => Ext w1 w') (first | exact grown_drew _ _ | assumption)
          (first
            | (go_at_call 126; refine Calls.mono (Calls.rel (w0 := w1) (by assumption) (inverseMod_ret (gt Y d) (gt P.orders d) _ HD.out.2.2.2.2.1 hyd1 hyd.2)) ?_; rintro eI wI ⟨vI, rfl, hgI, hsI, kk, rfl, hk0, hk1, hkm⟩; have HK := Lib.hid hkm; clear hkm))
        clear e1 e2 e3 e4 hdc hrt
        have hgwI := grown_trans hgw1 (grown_of_ext (some gb) hgI)
        have hqI := hq1t.ext hgI
        have hsqI := hsq1.ext hgI
        have hYI3 := hYI2.ext hgI
        have hqlt : ∀ k, (Value.slice a1 q.length cap1).ownBlock = some k → w.heap.size ≤ k := fun k hk => (hqI.lt k hk).1
        have hql : q.length ≤ 20000 := by have := HM.out.2.2; omega
        clear hq1t hsq1 hYI2 hcx
        go_wp2_with (first | (at_builtin; refine wp_shq_app rfl _ _ rfl (fun k => k = gb ∨ k = sb) w.heap.size _ _ q Y rfl wI hqI rfl hYI3 rfl (by omega) hgwI.size ?_; intro v2 w2 hq2 hg2 hb2; have hgw2 := grown_own hgwI hg2 (fun j hj hlt => by have := hqlt j hj; omega); have hc02 := HW.out.2.1 w2 hgw2) | fail)
        have hsq2 := seq_kept hsqI hqlt hgbs.2 hs.slt hg2 hb2
        have hYI4 := Ints.mono hYI3 (q_kept hg2 hb2)
        clear hqI hsqI hYI3
        refine Calls.mono (power_ok P hP w2 _ _ Y kk _ _ (HW.out.1 w2 hgw2) hYI4 HY.out.1 (by omega)) ?_
        rintro eZ wZ ⟨zv, rfl, hgZ, hOZ⟩
        have eZ : iPow P Y kk = pw P Y kk.toNat := G.iPow_eq HY.out.1 kk
        rw [eZ] at hOZ
        clear eZ
        obtain ⟨Z, hZ⟩ : ∃ Z, Z = pw P Y kk.toNat := ⟨_, rfl⟩
        rw [← hZ] at hOZ
        have hZV : Vec P.orders Z := by rw [hZ]; exact G.pw_vec HY.out.1 _
        have HZ := Lib.hid hZ; clear hZ
        have hgwZ := grown_trans hgw2 (grown_of_ext (some gb) hgZ)
        have hqZ := hq2.ext hgZ
        have hsqZ := hsq2.ext hgZ
        have hZI : Ints (fun k => ¬ (k = gb ∨ k = sb) ∧ v2.ownBlock ≠ some k) wZ zv Z := ints_of_own hOZ (by rw [hZV.1]; omega) (fun k hk => by
          have h1 := (hOZ.lt k hk).1
          have h2 := hs.slt
          have h3 := hgw2.size
          exact ⟨by omega, fun e => by have := (hq2.lt k e).2; omega⟩)
        have hqlt2 : ∀ k, v2.ownBlock = some k → w.heap.size ≤ k := fun k hk => (hqZ.lt k hk).1
        clear hq2 hsq2 hYI4 hg2 hb2
        obtain ⟨az, capz, hv, _, _⟩ := hZI.shape
        rw [hZV.1] at hv
        subst hv
        have HZV := Lib.hid hZV; clear hZV
        have hTV : Vec P.orders (pw P Z (gt P.orders d).toNat) := G.pw_vec HZV.out _
        have hTl : (pw P Z (gt P.orders d).toNat).length ≤ 6 := by rw [hTV.1]; omega
        have hTe : iPow P Z (gt P.orders d) = pw P Z (gt P.orders d).toNat := G.iPow_eq HZV.out _
        have HTV := Lib.hid (And.intro hTl hTe); clear hTl hTe hTV
        have e1 : ∀ w', w.grownBy w' (some gb) → w'.cell? ⟨sb, 0, none⟩ = some (.pointer (some ⟨pb, po, none⟩)) := HW.out.2.1
        have e2 : ∀ w', w.grownBy w' (some gb) → w'.cell? ⟨pb, po, none⟩ = some (.slice (some ⟨b2, off2, none⟩) P.orders.length capo) := HW.out.2.2.2
        have e3 : ∀ w', w.grownBy w' (some gb) → w'.cell? ⟨b2, off2 + d, none⟩ = some (.int .i64 (gt P.orders d)) := HD.out.2.2.2.1
        go_wp2
        go_region_held3 (fun w' => w.grownBy w' (some gb)) (first | exact grown_trans hgwZ (grown_drew _ _) | assumption | exact grown_trans hgwT (World.grownBy_alloc _ _ _))
          (first
            | (go_at_call 192; refine Calls.mono (Calls.rel2 (w0 := wZ) (grown_drew _ _) (power_ok P hP _ _ _ Z (gt P.orders d) _ _ ((HW.out.1 wZ hgwZ).ext (grown_drew _ _)) (hZI.ext (grown_drew _ _)) HZV.out (by omega))) ?_; rintro eT wT ⟨vT, rfl, hgT, hgT2, hsT, hOT⟩; have hgwT := grown_trans hgwZ (grown_of_ext (some gb) hgT); rw [HTV.out.2] at hOT; have hTI : Ints (fun k => ¬ (k = gb ∨ k = sb) ∧ v2.ownBlock ≠ some k) wT vT (pw P Z (gt P.orders d).toNat) := ints_of_own hOT (by have := HTV.out.1; omega) (fun k hk => by
                have h1 := (hOT.lt k hk).1
                have h2 := hs.slt
                have h3 := hgwZ.size
                exact ⟨by omega, fun e => by have := (hqZ.lt k e).2; omega⟩); obtain ⟨aT, capT, hvT, _, _⟩ := hTI.shape; subst hvT)
            | (refine step_shq_app rfl _ _ rfl (fun k => k = gb ∨ k = sb) w.heap.size v2 _ (q ++ [Y]) _ rfl wT (hqZ.ext hgT) rfl hTI rfl (by simp; omega) hgwT.size ?_; intro v3 w3 hq3 hg3 hb3; have hgw3 := grown_own hgwT hg3 (fun j hj hlt => by have := hqlt2 j hj; omega)))
        clear e1 e2 e3
        have hsq3 := seq_kept (hsqZ.ext hgT) hqlt2 hgbs.2 hs.slt hg3 hb3
        have hZI3 := Ints.mono (hZI.ext hgT) (q_kept hg3 hb3)
        have hc13 := HW.out.2.2.1 w3 hgw3
        have hc03 := HW.out.2.1 w3 hgw3
        obtain ⟨T1, hT1⟩ : ∃ T1, T1 = pw P Z (gt P.orders d).toNat := ⟨_, rfl⟩
        rw [← hT1] at hq3
        have HT1 := Lib.hid hT1; clear hT1
        clear hqZ hsqZ hZI hTI hOT hOZ hg3 hb3
        go_wp2
        clear hc13 hc03
        go_loopw [6, 84] (fun qv iv wr2 => ∃ (k : Nat) (v4 : Value), v4 = qv ∧ iv = .int .i64 k ∧ k ≤ P.orders.length ∧ w.grownBy wr2 (some gb) ∧ SeqAt B (fun j => v4.ownBlock = some j) wr2 sb gb (.pointer (some ⟨pb, po, none⟩)) P.orders.length b' ∧
          ShQ (fun k => k = gb ∨ k = sb) w.heap.size wr2 v4 (q ++ [Y] ++ [T1] ++ coms P b' Z k) ∧ Ints (fun j => ¬ (j = gb ∨ j = sb) ∧ v4.ownBlock ≠ some j) wr2 (.slice az P.orders.length capz) Z) (fun _ iv _ => P.orders.length - (intOf iv).toNat)
        case atStart => exact ⟨0, _, rfl, rfl, by omega, hgw3, hsq3, by simpa [coms] using hq3, hZI3⟩
        case round =>
          obtain ⟨k, v4, rfl, rfl, hk, hg4, hsq4, hq4, hZI4⟩ := hrel
          clear hsq3 hq3 hZI3
          have hqlt4 : ∀ j, v4.ownBlock = some j → w.heap.size ≤ j := fun j hj => (hq4.lt j hj).1
          by_cases hk2 : k < P.orders.length
          · obtain ⟨_, hcc⟩ := hsq4.tab.at k hk2
            rcases hcc with ⟨h0, hcell⟩ | ⟨hne, ab, capb, hcell, hbI⟩
            · have hcs : coms P b' Z (k + 1) = coms P b' Z k := by simp only [coms]; rw [if_pos h0, List.append_nil]
              have HC := Lib.hid hcs; clear hcs h0
              go_wp2
              go_roundw
              case rel => exact ⟨k + 1, v4, rfl, by go_num, by omega, hg4, hsq4, by rw [HC.out]; exact hq4, hZI4⟩
              case measure => simp [intOf]; omega
            · have hcs : coms P b' Z (k + 1) = coms P b' Z k ++ [comR P (gt b' k) Z] := by simp only [coms]; rw [if_neg hne]
              have hbV := (HT.out.2 k hk2 hne).1.1
              have hcV : Vec P.orders (comR P (gt b' k) Z) := G.mulV (G.invV (G.mulV HZV.out hbV)) (G.mulV hbV HZV.out)
              have HC := Lib.hid (And.intro hcs (And.intro hbV hcV)); clear hcs hbV hcV hne
              have hp0 := HW.out.2.1 wr hg4
              go_wp2_with fail
              refine Calls.mono (commutator_ok P G wr _ _ _ (gt b' k) Z _ _ _ (HW.out.1 wr hg4) hbI hZI4 HC.out.2.1 HZV.out) ?_
              rintro eC wC ⟨vC, rfl, hgC, hOC⟩
              have hOC : Own wr.heap.size wC vC (comR P (gt b' k) Z) := hOC
              have hCI : Ints (fun j => ¬ (j = gb ∨ j = sb) ∧ v4.ownBlock ≠ some j) wC vC (comR P (gt b' k) Z) := ints_of_own hOC (by rw [HC.out.2.2.1]; omega) (fun j hj => by
                have h1 := (hOC.lt j hj).1
                have h2 := hs.slt
                have h3 := hg4.size
                exact ⟨by omega, fun e => by have := (hq4.lt j e).2; omega⟩)
              have hgwC := grown_trans hg4 (grown_of_ext (some gb) hgC)
              obtain ⟨aC, capC, hvC, _, _⟩ := hCI.shape
              subst hvC
              have hcl := coms_len P b' Z k
              clear hOC hcell hp0
              go_wp2_with (first | (at_builtin; refine wp_shq_app rfl _ _ rfl (fun k => k = gb ∨ k = sb) w.heap.size v4 _ (q ++ [Y] ++ [T1] ++ coms P b' Z k) (comR P (gt b' k) Z) rfl wC (hq4.ext hgC) rfl hCI rfl (by simp; omega) hgwC.size ?_; intro v5 w5 hq5 hg5 hb5; have hgw5 := grown_own hgwC hg5 (fun j hj hlt => by have := hqlt4 j hj; omega)) | fail)
              go_roundw
              case rel => exact ⟨k + 1, v5, rfl, by go_num, by omega, hgw5, seq_kept (hsq4.ext hgC) hqlt4 hgbs.2 hs.slt hg5 hb5, by rw [HC.out.1, ← List.append_assoc]; exact hq5, Ints.mono (hZI4.ext hgC) (q_kept hg5 hb5)⟩
              case measure => simp [intOf]; omega
          · have hke : k = P.orders.length := by omega
            subst hke
            have hZne : Z ≠ [] := fun h => by have := HZV.out.1; rw [h] at this; simp at this; omega
            obtain ⟨hs5, hg5⟩ := hsq4.put d (u := .slice az P.orders.length capz) (y := Z) (Ints.sub hZI4 (fun j hj _ => ⟨fun e => hj.1 (.inl e), fun h => h.elim (fun e => hj.1 (.inr e)) hj.2⟩)) hZne
            obtain ⟨hfr, hcc⟩ := hsq4.tab.at d hd
            have hcd : wr.cell? ⟨gb, d, none⟩ = some (.slice none 0 0) := hcc.elim (fun h => h.2) (fun h => absurd HD.out.2.2.1 h.1)
            have hq5 : ShQ (fun k => k = gb ∨ k = sb) w.heap.size (wr.setCell ⟨gb, d, none⟩ (.slice az P.orders.length capz)) v4 (q ++ [Y] ++ [T1] ++ coms P b' Z P.orders.length) := hq4.kept hg5.size (fun j hj hc => hg5.block j hj (fun e => by
              have e := Option.some.inj e
              subst e
              rcases hc with hc | hc
              · have := hqlt4 _ hc; have := hgbs.2; omega
              · exact hc (.inl rfl))) (fun _ _ h => h)
            have hc1 := HW.out.2.2.1 wr hg4
            have hms := miss_set (b := b') (z := Z) HD.out.2.2.1 hZne P.orders.length (by rw [hsq4.tab.len]; exact Nat.le_refl _)
            rw [if_pos hd] at hms
            have hll : (q ++ [Y] ++ [T1] ++ coms P b' Z P.orders.length).length ≤ q.length + 2 + P.orders.length := by have := coms_len P b' Z P.orders.length; simp; omega
            have hmul : miss b' P.orders.length * (P.orders.length + 3) = miss (b'.set d Z) P.orders.length * (P.orders.length + 3) + (P.orders.length + 3) := by rw [← hms, Nat.add_mul, Nat.one_mul]
            have hSt5 : Hid (AddSt P H L b (b'.set d Z) (q ++ [Y] ++ [T1] ++ coms P b' Z P.orders.length) true) := by
              obtain ⟨⟨R, hA⟩, h2, h3, h4⟩ := hSt1.out
              have hst := G.add_step hA hd HD.out.2.1 HD.out.2.2.1 hsq4.tab.len kk hk0 HK.out
              rw [← HZ.out, ← HT1.out] at hst
              exact Lib.hid ⟨hst, by simp, fun _ => by omega, by omega⟩
            have hlt5 : miss (b'.set d Z) P.orders.length * (P.orders.length + 3) + (q ++ [Y] ++ [T1] ++ coms P b' Z P.orders.length).length < gk := by have := HM.out; omega
            have HX := Lib.hid (And.intro hll (And.intro hlt5 (And.intro hmul hms))); clear hll hmul hms hlt5 hSt1 hcc hq4 hsq4 hZI4
            have q1' : (d : Int) < P.orders.length := by omega
            go_wp2
            go_roundg (miss (b'.set d Z) P.orders.length * (P.orders.length + 3) + (q ++ [Y] ++ [T1] ++ coms P b' Z P.orders.length).length)
            case measure => exact HX.out.2.1
            case rel => exact ⟨b'.set d Z, _, true, by have := HX.out.2.1; omega, rfl, rfl, grown_trans hg4 hg5, hs5, hq5, hSt5⟩

end Go.Proofs.YtldheeicjnncoaaGreat
namespace Go.Proofs.YtldheeicjnncoaaGreat
open Go.RowKit

section
variable {P : Pr} (G : Grp P)
include G

theorem Grp.inv_one : rInv P (zeros P.orders.length) = zeros P.orders.length := by
  have h := G.inv_mul G.oneV
  rwa [G.grp.er _ (G.invV G.oneV)] at h

theorem Grp.sub_one : Sub P (fun x => x = zeros P.orders.length) :=
  ⟨fun x h => by rw [h]; exact G.oneV, rfl, fun x y hx hy => by rw [hx, hy]; exact G.grp.el _ G.oneV, fun x h => by rw [h]; exact G.inv_one⟩

theorem Grp.ind_one : Ind P (fun x => x = zeros P.orders.length) (gt (List.replicate P.orders.length ([] : List Int))) :=
  ⟨G.sub_one, fun d hd h => absurd (by simp [gt, hd]) h, fun x hx d hd _ h0 => absurd (by rw [hx]; exact gt_replicate _ _) h0⟩

omit G in
theorem genP_one (Q : List Int → Prop) : genP P (fun x => x = zeros P.orders.length ∨ Q x) = genP P Q :=
  funext fun x => propext ⟨fun h K S hQ => h K S (fun y hy => hy.elim (fun e => by rw [e]; exact S.one) (hQ y)), fun h K S hQ => h K S (fun y hy => hQ y (.inr hy))⟩

end

set_option maxHeartbeats 400000 in
theorem generated_ok (P : Pr) (G : Grp P) (w : World) (p lv : Value) (L : List (List Int)) (Sp Sr : Nat → Prop) (hp : PresP Sp w p P) (hl : Rows2 Sr w lv L) (hL : ∀ x ∈ L, Vec P.orders x) (hlen : L.length ≤ 10000) :
    Calls Tryz.prog 134 #[p, lv] w (Ret w fun w' v => RowsO w.heap.size w' v (cseq P (genP P (fun x => x ∈ L)))) := by
  have hP := G.v
  have hn6 := hP.n6
  obtain ⟨pb, po, rfl⟩ := hp.shape
  obtain ⟨al, capl, rfl, _, _⟩ := Sl.shape hl
  have HL := Lib.hid hL; clear hL
  go_enter Tryz.func134, Tryz.ntmps134
  go_wp2_with fail
  refine Calls.mono (newSequence_ok P w _ Sp (fun _ => False) hp hn6) ?_
  rintro e1 w1 ⟨v1, rfl, hg1, sb, gb, rfl, hs⟩
  have hgb := hs.tab.lt
  have hsb := hs.sB
  go_wp2_with fail
  refine Calls.mono (add_ok P G w1 sb gb w.heap.size _ _ L _ (fun x => x = zeros P.orders.length) (hp.mono (fun k _ hlt => ⟨by omega, Nat.lt_of_lt_of_le hlt hg1.size, hg1.block k hlt (by simp)⟩)) hs G.ind_one HL.out (Rows2.mono hl (fun k _ hlt => ⟨by omega, Nat.lt_of_lt_of_le hlt hg1.size, hg1.block k hlt (by simp)⟩)) hlen) ?_
  rintro e2 w2 ⟨b2, g, rfl, hg2, hs2, hA, _, _⟩
  rw [genP_one] at hA
  have hgw2 : Ext w w2 := grown_own hg1 hg2 (fun j hj hlt => by cases hj; omega)
  have HA := Lib.hid hA; clear hA
  go_wp2_with fail
  refine Calls.mono (canonical_ok P G w2 sb gb w.heap.size _ b2 _ _ _ (hp.ext hgw2) hs2 HA.out) ?_
  rintro e3 w3 ⟨v3, rfl, hg3, hO⟩
  go_wp2
  go_ret
  exact ⟨_, rfl, grown_trans hgw2 hg3, hO.weak hgw2.size⟩

end Go.Proofs.YtldheeicjnncoaaGreat
namespace Go.Proofs.YtldheeicjnncoaaGreat
open Go.RowKit

set_option maxHeartbeats 1000000 in
theorem eqRows_ok (v1 v2 : Value) (A B : List (List Int)) (w : World) (S1 S2 : Nat → Prop) (h1 : Rows2 S1 w v1 A) (h2 : Rows2 S2 w v2 B) :
    Calls Tryz.prog 278 #[v1, v2, .func (.func 167) #[] #[]] w (Ret w fun _ v => v = .bool (eqB A B)) := by
  obtain ⟨a1, cap1, rfl, _, _⟩ := Sl.shape h1
  obtain ⟨a2, cap2, rfl, _, _⟩ := Sl.shape h2
  by_cases hl : A.length = B.length
  · have HL := Lib.hid hl
    have hb0 : ((A.length : Int) != (B.length : Int)) = false := by simp [hl]
    clear hl
    go_enter Tryz.func278, Tryz.ntmps278
    go_wp2
    go_loopw [17] (fun iv wr => ∃ k : Nat, iv = .int .i64 k ∧ k ≤ A.length ∧ Ext w wr ∧ Hid (∀ j, j < k → gt A j = gt B j)) (fun iv _ => A.length - (intOf iv).toNat)
    case atStart => exact ⟨0, rfl, by omega, Ext.refl _, Lib.hid (fun j h => by omega)⟩
    case round =>
      obtain ⟨k, rfl, hk, hg, hE⟩ := hrel
      clear hb0
      by_cases hlt : k < A.length
      · have hlt' : (k : Int) < A.length := by omega
        have hlt2 : (k : Int) < B.length := by have := HL.out; omega
        obtain ⟨b1, o1, c1, d1, rfl, _, _, hc1, hi1⟩ := Rows2.at (Rows2.ext h1 hg) k hlt
        obtain ⟨b2, o2, c2, d2, rfl, _, _, hc2, hi2⟩ := Rows2.at (Rows2.ext h2 hg) k (by omega)
        have hk0 : (0 : Int) ≤ k := by omega
        go_wp2_with fail
        refine Calls.mono (sEqual_ok _ _ (gt A k) (gt B k) wr _ _ hi1 hi2) ?_
        rintro eE wE ⟨vE, rfl, hgE, rfl⟩
        clear hc1 hc2
        cases hq : eqB (gt A k) (gt B k) with
        | true =>
          have HQ := Lib.hid hq; clear hq
          go_wp2
          go_roundw
          case rel => exact ⟨k + 1, by go_num, by omega, grown_trans hg hgE, Lib.hid (fun j hj => by
            rcases Nat.lt_succ_iff_lt_or_eq.1 hj with h | h
            · exact hE.out j h
            · rw [h]; exact eqB_true.1 HQ.out)⟩
          case measure => simp [intOf]; omega
        | false =>
          have hf := eqB_false_at (eqB_false.1 hq)
          have HQ := Lib.hid hf; clear hq hf
          go_wp2
          go_ret
          exact ⟨_, rfl, grown_trans hg hgE, by rw [HQ.out]; rfl⟩
      · have he : eqB A B = true := eqB_true.2 (ext_gt HL.out (fun i hi => hE.out i (by omega)))
        have HE := Lib.hid he; clear he
        go_wp2
        go_ret
        exact ⟨_, rfl, hg, by rw [HE.out]; rfl⟩
  · have he : eqB A B = false := eqB_false.2 (fun e => hl (by rw [e]))
    have HE := Lib.hid he; clear he
    have hb0 : ((A.length : Int) != (B.length : Int)) = true := by simp; omega
    clear hl
    go_enter Tryz.func278, Tryz.ntmps278
    go_wp2
    go_ret
    exact ⟨_, rfl, Ext.refl _, by rw [HE.out]; rfl⟩

theorem sameRows_ok (v1 v2 : Value) (A B : List (List Int)) (w : World) (S1 S2 : Nat → Prop) (h1 : Rows2 S1 w v1 A) (h2 : Rows2 S2 w v2 B) :
    Calls Tryz.prog 187 #[v1, v2] w (Ret w fun _ v => v = .bool (eqB A B)) := by
  have hcon := eqRows_ok v1 v2 A B w S1 S2 h1 h2
  obtain ⟨a1, cap1, rfl, _, _⟩ := Sl.shape h1
  obtain ⟨a2, cap2, rfl, _, _⟩ := Sl.shape h2
  go_enter Tryz.func187, Tryz.ntmps187
  go_wp2_with fail
  refine Calls.mono hcon ?_
  rintro e1 w1 ⟨v, rfl, hg, rfl⟩
  clear hcon
  go_wp2
  go_ret
  exact ⟨_, rfl, hg, rfl⟩

/-- u is the canonical sequence of a subgroup -/
def SubB (P : Pr) (u : List (List Int)) : Prop := (∀ x ∈ u, Vec P.orders x) ∧ u = cseq P (genP P (fun x => x ∈ u))

theorem Grp.cseq_len {P : Pr} (G : Grp P) {H : List Int → Prop} (S : Sub P H) : (cseq P H).length ≤ P.orders.length := by
  obtain ⟨r, _, h⟩ := G.cseq_spec S
  rw [h, sq_all]; exact sq_len _ _ _

theorem Grp.sub_len {P : Pr} (G : Grp P) {u : List (List Int)} (h : SubB P u) : u.length ≤ P.orders.length := by
  rw [h.2]; exact G.cseq_len (G.genP_sub h.1)

set_option maxRecDepth 100000 in
set_option maxHeartbeats 2000000 in
theorem areSubgroups_ok (P : Pr) (w : World) (p lv : Value) (us : List (List (List Int))) (Sp Sr : Nat → Prop) (hp : PresP Sp w p P) (hl : Rows3 Sr w lv us) :
    Calls Tryz.prog 89 #[p, lv] w (Ret w fun _ v => ∃ r : Bool, v = .bool r ∧ (r = true ↔ rconsB P = true ∧ ∀ u ∈ us, SubB P u)) := by
  obtain ⟨pb, po, rfl⟩ := hp.shape
  obtain ⟨al, capl, rfl, _, _⟩ := Sl.shape hl
  obtain ⟨vo, vp, vc, _, _, hc0, hc1, hc2, h3⟩ := hp.at
  obtain ⟨ao, capo, rfl, _, _⟩ := h3.o.shape
  obtain ⟨ap, capp, rfl, _, _⟩ := Sl.shape h3.p
  obtain ⟨ac, capc, rfl, _, _⟩ := Sl.shape h3.c
  have hcon := isConsistent_ok P w (.agg #[.slice ao P.orders.length capo, .slice ap P.powers.length capp, .slice ac P.conj.length capc]) Sp ⟨_, _, _, rfl, h3⟩
  rw [icons_eq] at hcon
  go_enter Tryz.func89, Tryz.ntmps89
  go_wp2_with fail
  refine Calls.mono hcon ?_
  rintro e1 w1 ⟨v, rfl, hg1, rfl⟩
  clear hcon
  cases hq : rconsB P with
  | false =>
    have HQ := Lib.hid hq; clear hq
    go_wp2
    go_ret
    exact ⟨_, rfl, hg1, false, rfl, by simp only [Bool.false_eq_true, false_iff]; rintro ⟨h, _⟩; rw [HQ.out] at h; cases h⟩
  | true =>
    have G := grp_of_r hq
    have hn6 := G.v.n6
    have HQ := Lib.hid hq; clear hq hc1 hc2
    go_wp2
    go_loopw [16] (fun iv wr => ∃ i : Nat, iv = .int .i64 i ∧ i ≤ us.length ∧ Ext w wr ∧ Hid (∀ j, j < i → SubB P (gt us j))) (fun iv _ => us.length - (intOf iv).toNat)
    case atStart => exact ⟨0, rfl, by omega, hg1, Lib.hid (fun j h => by omega)⟩
    case round =>
      obtain ⟨i, rfl, hi, hg, hS⟩ := hrel
      by_cases hlt : i < us.length
      · have hlt' : (i : Int) < us.length := by omega
        obtain ⟨b, off, a2, cap2, rfl, _, _, hcu, hu⟩ := Rows3.at hl i hlt
        obtain ⟨U, hU⟩ : ∃ U, U = gt us i := ⟨_, rfl⟩
        rw [← hU] at hcu hu
        have HUe := Lib.hid hU; clear hU
        have hc0r := hg.cell hc0 (by simp)
        have hcur := hg.cell hcu (by simp)
        by_cases hlen : U.length ≤ P.orders.length
        · have hgt : ¬ (P.orders.length : Int) < U.length := by omega
          go_wp2
          clear hcur hc0r hgt
          go_loopw [30] (fun jv wr => ∃ j : Nat, jv = .int .i64 j ∧ j ≤ U.length ∧ Ext w wr ∧ Hid (∀ l, l < j → Vec P.orders (gt U l))) (fun jv _ => U.length - (intOf jv).toNat)
          case atStart => exact ⟨0, rfl, by omega, hg, Lib.hid (fun j h => by omega)⟩
          case round =>
            clear hg
            obtain ⟨j, rfl, hj, hg, hV⟩ := hrel
            by_cases hjl : j < U.length
            · have hjl' : (j : Int) < U.length := by omega
              obtain ⟨b3, off3, a3, cap3, rfl, _, _, hc3, hr3⟩ := Rows2.at (Rows2.ext hu hg) j hjl
              have hex := isExponents_ok wr _ _ P (gt U j) Sp Sr (hp.ext hg) hr3 (fun i hi => by have := G.v.ord7 i hi; omega)
              cases hb : expB P.orders (gt U j) with
              | true =>
                rw [hb] at hex
                have HB := Lib.hid (expB_vec.1 hb); clear hb
                go_wp2_with fail
                refine Calls.mono hex ?_
                rintro eE wE ⟨rfl, rfl⟩
                clear hex
                go_wp2
                go_roundw
                case rel => exact ⟨j + 1, by go_num, by omega, hg, Lib.hid (fun l hl => by
                  rcases Nat.lt_succ_iff_lt_or_eq.1 hl with h | h
                  · exact hV.out l h
                  · rw [h]; exact HB.out)⟩
                case measure => simp [intOf]; omega
              | false =>
                rw [hb] at hex
                have hno : ¬ SubB P U := fun h => by
                  have := expB_vec.2 (h.1 _ (gtMem hjl))
                  rw [hb] at this; cases this
                have HB := Lib.hid hno; clear hb hno
                go_wp2_with fail
                refine Calls.mono hex ?_
                rintro eE wE ⟨rfl, rfl⟩
                clear hex
                go_wp2
                go_ret
                exact ⟨_, rfl, hg, false, rfl, by
                  simp only [Bool.false_eq_true, false_iff]
                  rintro ⟨_, h⟩
                  exact HB.out (by rw [HUe.out]; exact h _ (gtMem hlt))⟩
            · have hje : j = U.length := by omega
              subst hje
              have hUV : ∀ x ∈ U, Vec P.orders x := fun x hx => by
                obtain ⟨l, hl, rfl⟩ := List.getElem_of_mem hx
                rw [← gt_eq U l hl]; exact hV.out l hl
              have hcl : (cseq P (genP P (fun x => x ∈ U))).length ≤ P.orders.length := G.cseq_len (G.genP_sub hUV)
              have HUV := Lib.hid hUV; clear hUV
              go_wp2_with fail
              refine Calls.mono (generated_ok P G wr _ _ U Sp Sr (hp.ext hg) (Rows2.ext hu hg) HUV.out (by omega)) ?_
              rintro eG wG ⟨vG, rfl, hgG, hOG⟩
              have hgw := grown_trans hg hgG
              have hRG := RowsD.rows (hOG.toD (by omega))
              obtain ⟨aG, capG, hvG, _, _⟩ := Sl.shape hRG
              subst hvG
              go_wp2_with fail
              refine Calls.mono (sameRows_ok _ _ _ U wG _ _ hRG (Rows2.ext hu hgw)) ?_
              rintro eS wS ⟨vS, rfl, hgS, rfl⟩
              cases hb : eqB (cseq P (genP P (fun x => x ∈ U))) U with
              | true =>
                have HB := Lib.hid (eqB_true.1 hb); clear hb
                go_wp2
                go_roundw
                case rel => exact ⟨i + 1, by go_num, by omega, grown_trans hgw hgS, Lib.hid (fun l hl => by
                  rcases Nat.lt_succ_iff_lt_or_eq.1 hl with h | h
                  · exact hS.out l h
                  · rw [h, ← HUe.out]; exact ⟨HUV.out, HB.out.symm⟩)⟩
                case measure => simp [intOf]; omega
              | false =>
                have HB := Lib.hid (eqB_false.1 hb); clear hb
                go_wp2
                go_ret
                exact ⟨_, rfl, grown_trans hgw hgS, false, rfl, by
                  simp only [Bool.false_eq_true, false_iff]
                  rintro ⟨_, h⟩
                  have := h _ (gtMem hlt)
                  rw [← HUe.out] at this
                  exact HB.out this.2.symm⟩
        · have hgt : (P.orders.length : Int) < U.length := by omega
          have hno : ¬ SubB P U := fun h => hlen (G.sub_len h)
          have HB := Lib.hid hno; clear hno hlen
          go_wp2
          go_ret
          exact ⟨_, rfl, hg, false, rfl, by
            simp only [Bool.false_eq_true, false_iff]
            rintro ⟨_, h⟩
            exact HB.out (by rw [HUe.out]; exact h _ (gtMem hlt))⟩
      · have hie : i = us.length := by omega
        subst hie
        go_wp2
        go_ret
        exact ⟨_, rfl, hg, true, rfl, by
          simp only [true_iff]
          exact ⟨HQ.out, fun u hu => by
            obtain ⟨l, hl, rfl⟩ := List.getElem_of_mem hu
            rw [← gt_eq us l hl]; exact hS.out l hl⟩⟩

end Go.Proofs.YtldheeicjnncoaaGreat
namespace Go.Proofs.YtldheeicjnncoaaGreat

/-- the first k rows, each at its depth -/
def tabTo (U : List (List Int)) (n : Nat) : Nat → List (List Int)
  | 0 => List.replicate n []
  | k + 1 => (tabTo U n k).set (dep (gt U k)) (gt U k)

theorem tabTo_len (U : List (List Int)) (n k : Nat) : (tabTo U n k).length = n := by
  induction k with
  | zero => simp [tabTo]
  | succ k ih => simp only [tabTo, List.length_set]; exact ih

theorem tabTo_at (P : Pr) (U : List (List Int)) : ∀ k, k ≤ U.length → ∀ d, d < P.orders.length →
    (gt (tabTo U P.orders.length k) d = [] ∧ ∀ j, j < k → dep (gt U j) ≠ d) ∨ ∃ j, j < k ∧ dep (gt U j) = d ∧ gt (tabTo U P.orders.length k) d = gt U j := by
  intro k
  induction k with
  | zero => intro _ d hd; exact .inl ⟨by simp [tabTo, gt, hd], fun j hj => by omega⟩
  | succ k ih =>
    intro hk d hd
    have hl := tabTo_len U P.orders.length k
    simp only [tabTo]
    by_cases h : dep (gt U k) = d
    · right
      exact ⟨k, by omega, h, by rw [h, gt_set_eq _ _ _ (by omega)]⟩
    · rw [gt_set_ne _ _ _ _ h]
      rcases ih (by omega) d hd with ⟨h1, h2⟩ | ⟨j, h1, h2, h3⟩
      · left
        refine ⟨h1, fun j hj => ?_⟩
        rcases Nat.lt_succ_iff_lt_or_eq.1 hj with hj | hj
        · exact h2 j hj
        · rw [hj]; exact h
      · right
        exact ⟨j, by omega, h2, h3⟩

/-- an entry is a vector or nothing -/
theorem tabTo_vec {P : Pr} {U : List (List Int)} (hU : SeqOk P U) (d : Nat) (hd : d < P.orders.length) (hne : gt (tabTo U P.orders.length U.length) d ≠ []) :
    T P d (gt (tabTo U P.orders.length U.length) d) ∧ gt (gt (tabTo U P.orders.length U.length) d) d = 1 := by
  rcases tabTo_at P U U.length (Nat.le_refl _) d hd with ⟨h, _⟩ | ⟨j, hj, hjd, he⟩
  · exact absurd h hne
  · obtain ⟨a, _, c⟩ := hU.1 _ (gtMem hj)
    rw [he, ← hjd]
    exact ⟨dep_T a, c⟩

section
variable {P : Pr} (G : Grp P)
include G

theorem Grp.ind_tab {H : List Int → Prop} (S : Sub P H) : Ind P H (gt (tabTo (cseq P H) P.orders.length (cseq P H).length)) := by
  obtain ⟨h1, h2, h3⟩ := G.seq_facts S
  refine ⟨S, fun d hd hne => ?_, fun x hx d hd hT h0 => ?_⟩
  · refine ⟨?_, tabTo_vec h1 d hd hne⟩
    rcases tabTo_at P _ _ (Nat.le_refl _) d hd with ⟨h, _⟩ | ⟨j, hj, _, he⟩
    · exact absurd h hne
    · rw [he]; exact h2 _ (gtMem hj)
  · obtain ⟨j, hj, hjd⟩ := h3 x hx d hd hT h0
    rcases tabTo_at P _ _ (Nat.le_refl _) d hd with ⟨_, h⟩ | ⟨i, hi, _, he⟩
    · exact absurd hjd (h j hj)
    · rw [he]
      intro hn
      have := (h1.1 _ (gtMem hi)).1.1
      rw [hn] at this; simp at this; omega

end

end Go.Proofs.YtldheeicjnncoaaGreat
namespace Go.Proofs.YtldheeicjnncoaaGreat

/-- a sequence generates its subgroup -/
theorem Grp.genP_cseq {P : Pr} (G : Grp P) {H : List Int → Prop} (S : Sub P H) : genP P (fun x => x ∈ cseq P H) = H := by
  have hm := G.seq_facts S
  have hV : ∀ y, y ∈ cseq P H → Vec P.orders y := fun y hy => S.vec y (hm.2.1 y hy)
  refine funext fun x => propext ⟨fun h => h H S hm.2.1, fun h => ?_⟩
  exact elsP_sub (G.genP_sub hV) (fun z hz => genP_mem hz) _ (Nat.le_refl _) x ((G.elsP_mem S hm.1 hm.2.1 hm.2.2 x).2 h)

/-- what the list of a subgroup generates is a subgroup, of which the list is the sequence -/
theorem Grp.subB {P : Pr} (G : Grp P) {u : List (List Int)} (h : SubB P u) : Sub P (genP P (fun x => x ∈ u)) := G.genP_sub h.1

end Go.Proofs.YtldheeicjnncoaaGreat
namespace Go.Proofs.YtldheeicjnncoaaGreat

theorem flatMap_len' {α β : Type} (l : List α) (f : α → List β) (n : Nat) (h : ∀ x ∈ l, (f x).length = n) : (l.flatMap f).length = l.length * n := by
  induction l with
  | nil => simp
  | cons a l ih =>
    rw [List.flatMap_cons, List.length_append, h a (List.mem_cons_self ..), ih (fun x hx => h x (List.mem_cons_of_mem _ hx)), List.length_cons, Nat.succ_mul]; omega
end Go.Proofs.YtldheeicjnncoaaGreat
namespace Go.Proofs.YtldheeicjnncoaaGreat
open Go.RowKit

def prodU (P : Pr) (U : List (List Int)) : Nat → Int
  | 0 => 1
  | k + 1 => prodU P U k * gt P.orders (dep (gt U k))

theorem prodU_le {P : Pr} (hP : Valid P) {U : List (List Int)} (hU : SeqOk P U) : ∀ k m, k ≤ U.length → (∀ j, j < k → dep (gt U j) < m) → m ≤ P.orders.length → 1 ≤ prodU P U k ∧ prodU P U k ≤ prodTo P.orders m := by
  intro k
  induction k with
  | zero => intro m _ _ hm; exact ⟨by simp [prodU], prodTo_pos m (fun i hi => hP.pos i (by omega))⟩
  | succ k ih =>
    intro m hk hj hm
    have hd := hj k (by omega)
    have hlt : k < U.length := by omega
    obtain ⟨h1, h2⟩ := ih (dep (gt U k)) (by omega) (fun j hj => hU.2 j k hj hlt) (by omega)
    have ho := hP.ord7 (dep (gt U k)) (by omega)
    have h3 : prodU P U k * gt P.orders (dep (gt U k)) ≤ prodTo P.orders (dep (gt U k)) * gt P.orders (dep (gt U k)) := Int.mul_le_mul_of_nonneg_right h2 (by omega)
    have h4 : prodTo P.orders (dep (gt U k) + 1) ≤ prodTo P.orders m := prodTo_mono _ _ (by omega) (fun i hi => hP.pos i (by omega))
    have h5 : 1 * 1 ≤ prodU P U k * gt P.orders (dep (gt U k)) := Int.mul_le_mul h1 (by omega) (by omega) (by omega)
    simp only [prodTo] at h4
    simp only [prodU]
    exact ⟨by omega, by omega⟩

theorem prodU_729 {P : Pr} (hP : Valid P) {U : List (List Int)} (hU : SeqOk P U) (k : Nat) (hk : k ≤ U.length) : 1 ≤ prodU P U k ∧ prodU P U k ≤ 729 := by
  obtain ⟨h1, h2⟩ := prodU_le hP hU k P.orders.length hk (fun j hj => (hU.1 _ (gtMem (by omega))).2.1) (Nat.le_refl _)
  have := hP.le729
  exact ⟨h1, by omega⟩

end Go.Proofs.YtldheeicjnncoaaGreat
namespace Go.Proofs.YtldheeicjnncoaaGreat

theorem stepE_len (P : Pr) (u : List Int) (o : Nat) (x : List Int) : (stepE P u o x).length = o := by unfold stepE; simp

theorem flatMap_len (P : Pr) (u : List Int) (o : Nat) (l : List (List Int)) : (l.flatMap (stepE P u o)).length = l.length * o := by
  induction l with
  | nil => simp
  | cons x l ih => rw [List.flatMap_cons, List.length_append, ih, stepE_len, List.length_cons, Nat.add_mul]; omega

/-- as many products as the order says -/
theorem elsP_len {P : Pr} (hP : Valid P) {U : List (List Int)} (hU : SeqOk P U) (k : Nat) (hk : k ≤ U.length) : ((elsP P U k).length : Int) = prodU P U k := by
  induction k with
  | zero => simp [elsP, prodU]
  | succ k ih =>
    have ih := ih (by omega)
    have ho := hP.ord7 (dep (gt U k)) (hU.1 _ (gtMem (by omega))).2.1
    simp only [elsP, prodU]
    rw [flatMap_len, Int.natCast_mul, ih, show (((gt P.orders (dep (gt U k))).toNat : Nat) : Int) = gt P.orders (dep (gt U k)) by omega]

end Go.Proofs.YtldheeicjnncoaaGreat
namespace Go.Proofs.YtldheeicjnncoaaGreat
open Go.RowKit

section
variable {P : Pr} (G : Grp P)
include G

theorem Grp.order_elems {H : List Int → Prop} (S : Sub P H) : prodU P (cseq P H) (cseq P H).length = (elemsIn P H).length := by
  rw [← G.els_sorted S, (sortL_perm _).length_eq]
  exact (elsP_len G.v (G.seq_facts S).1 _ (Nat.le_refl _)).symm

omit G in
theorem elemsIn_nodup {P : Pr} (hP : Valid P) (H : List Int → Prop) : (elemsIn P H).Nodup :=
  List.nodup_iff_pairwise_ne.2 ((elemsIn_asc hP H).imp (fun {a b} h e => by subst e; omega))

end

section
variable {P : Pr} (G : Grp P)
include G

end
end Go.Proofs.YtldheeicjnncoaaGreat
namespace Go.Proofs.YtldheeicjnncoaaGreat

/-- an element of the group -/
def El {P : Pr} (_ : Grp P) : Type := {x : List Int // Vec P.orders x}

section
variable {P : Pr} {G : Grp P}

instance : Mul (El G) := ⟨fun x y => ⟨rMul P x.1 y.1, G.mulV x.2 y.2⟩⟩
instance : One (El G) := ⟨⟨zeros P.orders.length, G.oneV⟩⟩
instance : Inv (El G) := ⟨fun x => ⟨rInv P x.1, G.invV x.2⟩⟩

theorem El.ass (x y z : El G) : x * y * z = x * (y * z) := Subtype.ext (G.ass x.2 y.2 z.2)
theorem El.ol (x : El G) : 1 * x = x := Subtype.ext (G.grp.el _ x.2)
theorem El.or (x : El G) : x * 1 = x := Subtype.ext (G.grp.er _ x.2)
theorem El.il (x : El G) : x⁻¹ * x = 1 := Subtype.ext (G.inv_mul x.2)
theorem El.ir (x : El G) : x * x⁻¹ = 1 := Subtype.ext (G.mul_inv x.2)
theorem El.ilc (x y : El G) : x⁻¹ * (x * y) = y := by rw [← El.ass, El.il, El.ol]
theorem El.irc (x y : El G) : x * (x⁻¹ * y) = y := by rw [← El.ass, El.ir, El.ol]
theorem El.inv_of {x y : El G} (h : x * y = 1) : y = x⁻¹ := by rw [← El.ilc x y, h, El.or]
theorem El.mi (x y : El G) : (x * y)⁻¹ = y⁻¹ * x⁻¹ := (El.inv_of (by rw [El.ass, El.irc, El.ir])).symm
theorem El.ii (x : El G) : x⁻¹⁻¹ = x := (El.inv_of (El.il x)).symm
/-- powers -/
def ep (x : El G) : Nat → El G
  | 0 => 1
  | k + 1 => ep x k * x
theorem ep_val (x : El G) : ∀ k, (ep x k).1 = pw P x.1 k
  | 0 => rfl
  | k + 1 => by
    show rMul P (ep x k).1 x.1 = _
    rw [ep_val x k]; rfl
/-- a subgroup -/
structure SG (H : El G → Prop) : Prop where
  one : H 1
  mul : ∀ x y, H x → H y → H (x * y)
  inv : ∀ x, H x → H x⁻¹
theorem SG.ep {H : El G → Prop} (S : SG H) {x : El G} (hx : H x) (k : Nat) : H (ep x k) := by
  induction k with
  | zero => exact S.one
  | succ k ih => exact S.mul _ _ ih hx
theorem SG.and {H K : El G → Prop} (S : SG H) (R : SG K) : SG (fun x => H x ∧ K x) :=
  ⟨⟨S.one, R.one⟩, fun _ _ h k => ⟨S.mul _ _ h.1 k.1, R.mul _ _ h.2 k.2⟩, fun _ h => ⟨S.inv _ h.1, R.inv _ h.2⟩⟩

/-- x begins with d zeros -/
def dT (d : Nat) (x : El G) : Prop := ∀ k, k < d → gt x.1 k = 0
theorem dT_T {d : Nat} {x : El G} : dT d x ↔ T P d x.1 := ⟨fun h => ⟨x.2, h⟩, fun h => h.2⟩
theorem dT_sg {d : Nat} (hd : d ≤ P.orders.length) : SG (dT (G := G) d) :=
  ⟨dT_T.2 (T.zeros G.v d), fun _ _ h k => dT_T.2 (G.T_mul hd (dT_T.1 h) (dT_T.1 k)), fun _ h => dT_T.2 (G.T_inv hd (dT_T.1 h))⟩
theorem dT_top {x : El G} (h : dT P.orders.length x) : x = 1 := Subtype.ext ((dT_T.1 h).top G.v)
theorem dT_up {d : Nat} {x : El G} (h : dT d x) (h0 : gt x.1 d = 0) : dT (d + 1) x := dT_T.2 ((dT_T.1 h).up h0)
theorem dT_down {d : Nat} {x : El G} (h : dT (d + 1) x) : dT d x := fun k hk => h k (by omega)
theorem dT_zero (x : El G) : dT 0 x := fun k hk => by omega

/-- the depths of a subgroup -/
def pv (H : El G → Prop) (d : Nat) : Prop := d < P.orders.length ∧ ∃ x, H x ∧ dT d x ∧ gt x.1 d ≠ 0
theorem hit7 (q b c : Nat) (hq : q = 2 ∨ q = 3 ∨ q = 5 ∨ q = 7) (h0 : 0 < b) (h1 : b < q) (hc : c < q) : ∃ j, (j * b) % q = c := by
  have key : ∀ q, q < 8 → (q = 2 ∨ q = 3 ∨ q = 5 ∨ q = 7) → ∀ b, b < q → 0 < b → ∀ c, c < q → ∃ j, j < q ∧ (j * b) % q = c := by decide
  obtain ⟨j, _, h⟩ := key q (by omega) hq b h1 h0 c hc
  exact ⟨j, h⟩
theorem ordN (G : Grp P) {d : Nat} (hd : d < P.orders.length) : ∃ q : Nat, gt P.orders d = (q : Int) ∧ (gt P.orders d).toNat = q ∧ (q = 2 ∨ q = 3 ∨ q = 5 ∨ q = 7) := by
  have := G.v.ord d hd
  exact ⟨(gt P.orders d).toNat, by omega, rfl, by omega⟩

theorem ep_dT {d : Nat} (hd : d ≤ P.orders.length) {x : El G} (h : dT d x) (k : Nat) : dT d (ep x k) := (dT_sg hd).ep h k
theorem ep_at {d : Nat} (hd : d < P.orders.length) {x : El G} (h : dT d x) (k : Nat) : gt (ep x k).1 d = ((k : Int) * gt x.1 d) % gt P.orders d := by
  rw [ep_val]; exact G.pw_at hd (dT_T.1 h) k
theorem lead_hit {d : Nat} (hd : d < P.orders.length) {x : El G} (h : dT d x) (h0 : gt x.1 d ≠ 0) {c : Int} (hc : 0 ≤ c ∧ c < gt P.orders d) : ∃ j, gt (ep x j).1 d = c := by
  obtain ⟨q, h1, h2, h3⟩ := ordN G hd
  have hb := x.2.2 d hd
  obtain ⟨b, hbe⟩ : ∃ b : Nat, gt x.1 d = (b : Int) := ⟨(gt x.1 d).toNat, by omega⟩
  obtain ⟨e, he⟩ : ∃ e : Nat, c = (e : Int) := ⟨c.toNat, by omega⟩
  obtain ⟨j, hj⟩ := hit7 q b e h3 (by omega) (by omega) (by omega)
  refine ⟨j, ?_⟩
  rw [ep_at hd h, h1, hbe, he, ← hj, Int.natCast_emod, Int.natCast_mul]
theorem el_diff {d : Nat} (hd : d < P.orders.length) {x y : El G} (hx : dT d x) (hy : dT d y) (h : gt x.1 d = gt y.1 d) : dT (d + 1) (x⁻¹ * y) :=
  dT_T.2 (G.diff hd (dT_T.1 hx) (dT_T.1 hy) h)
theorem el_same {d : Nat} (hd : d < P.orders.length) {x y : El G} (h : dT (d + 1) (x⁻¹ * y)) : gt x.1 d = gt y.1 d := by
  have h1 := (G.right (Nat.succ_le_of_lt hd) x.2 (dT_T.1 h)).1 d (by omega)
  have h2 : rMul P x.1 (x⁻¹ * y).1 = y.1 := congrArg Subtype.val (El.irc x y)
  rw [h2] at h1
  exact h1.symm

/-- all elements -/
theorem els_ex (G : Grp P) : ∃ l : List (El G), l.Nodup ∧ ∀ x, x ∈ l := by
  have key : ∀ m : List (List Int), m.Nodup → ∃ l : List (El G), l.Nodup ∧ ∀ x : El G, x ∈ l ↔ x.1 ∈ m := by
    intro m
    induction m with
    | nil => intro _; exact ⟨[], List.nodup_nil, fun x => by simp⟩
    | cons a m ih =>
      intro h
      obtain ⟨h1, h2⟩ := List.nodup_cons.1 h
      obtain ⟨l, hl, hm⟩ := ih h2
      by_cases ha : Vec P.orders a
      · obtain ⟨y, hy⟩ : ∃ y : El G, y.1 = a := ⟨⟨a, ha⟩, rfl⟩
        refine ⟨y :: l, List.nodup_cons.2 ⟨fun hh => h1 (hy ▸ (hm _).1 hh), hl⟩, fun x => ?_⟩
        rw [List.mem_cons, List.mem_cons, hm x]
        exact ⟨fun hh => hh.elim (fun e => .inl (by rw [e]; exact hy)) .inr, fun hh => hh.elim (fun e => .inl (Subtype.ext (e.trans hy.symm))) .inr⟩
      · refine ⟨l, hl, fun x => ?_⟩
        rw [hm x, List.mem_cons]
        exact ⟨.inr, fun hh => hh.elim (fun e => absurd (e ▸ x.2) ha) id⟩
  obtain ⟨l, h1, h2⟩ := key (elemsIn P (Vec P.orders)) (elemsIn_nodup G.v _)
  exact ⟨l, h1, fun x => (h2 x).2 ((elemsIn_mem G.v (fun _ h => h)) x.1 |>.2 x.2)⟩
noncomputable def els (G : Grp P) : List (El G) := Classical.choose (els_ex G)
theorem els_nodup (G : Grp P) : (els G).Nodup := (Classical.choose_spec (els_ex G)).1
theorem els_mem (G : Grp P) (x : El G) : x ∈ els G := (Classical.choose_spec (els_ex G)).2 x

open Classical in
noncomputable def elsIn (H : El G → Prop) : List (El G) := (els G).filter (fun x => decide (H x))
theorem elsIn_nodup (H : El G → Prop) : (elsIn H).Nodup := (els_nodup G).filter _
theorem elsIn_mem {H : El G → Prop} {x : El G} : x ∈ elsIn H ↔ H x := by
  classical
  unfold elsIn; rw [List.mem_filter, decide_eq_true_iff]; exact ⟨fun h => h.2, fun h => ⟨els_mem G x, h⟩⟩
/-- how many elements have a property -/
noncomputable def cd (H : El G → Prop) : Nat := (elsIn H).length
theorem cd_list {H : El G → Prop} {l : List (El G)} (h1 : l.Nodup) (h2 : ∀ x, x ∈ l ↔ H x) : cd H = l.length :=
  ((List.perm_ext_iff_of_nodup (elsIn_nodup H) h1).2 (fun x => elsIn_mem.trans (h2 x).symm)).length_eq
theorem cd_congr {H K : El G → Prop} (h : ∀ x, H x ↔ K x) : cd H = cd K := by
  have : H = K := funext fun x => propext (h x)
  rw [this]
/-- alike up to N -/
def eqv (N : El G → Prop) (x y : El G) : Prop := N (x⁻¹ * y)
theorem eqv_refl {N : El G → Prop} (S : SG N) (x : El G) : eqv N x x := by unfold eqv; rw [El.il]; exact S.one
theorem eqv_symm {N : El G → Prop} (S : SG N) {x y : El G} (h : eqv N x y) : eqv N y x := by
  have := S.inv _ h
  rwa [El.mi, El.ii] at this
theorem eqv_trans {N : El G → Prop} (S : SG N) {x y z : El G} (h : eqv N x y) (k : eqv N y z) : eqv N x z := by
  have := S.mul _ _ h k
  rwa [El.ass, El.irc] at this

theorem flat_len {α β : Type} (l : List α) (f : α → List β) (n : Nat) (h : ∀ x ∈ l, (f x).length = n) : (l.flatMap f).length = l.length * n := flatMap_len' l f n h

/-- Lagrange, by representatives -/
theorem cd_mul {N B : El G → Prop} (S : SG N) {ts : List (El G)} (hn : ts.Nodup) (hc : ∀ t ∈ ts, ∀ n, N n → B (t * n)) (h1 : ∀ t ∈ ts, ∀ u ∈ ts, eqv N t u → t = u) (h2 : ∀ x, B x → ∃ t ∈ ts, eqv N t x) : cd B = ts.length * cd N := by
  rw [cd_list (H := B) (l := ts.flatMap (fun t => (elsIn N).map (fun n => t * n))) ?_ ?_]
  · exact flat_len _ _ _ (fun x _ => List.length_map ..)
  · refine List.nodup_iff_pairwise_ne.2 (List.pairwise_flatMap.2 ⟨fun t _ => ?_, ?_⟩)
    · rw [List.pairwise_map]
      refine (List.nodup_iff_pairwise_ne.1 (elsIn_nodup N)).imp (fun {a b} hab e => hab ?_)
      have := congrArg (fun z => t⁻¹ * z) e
      simpa only [El.ilc] using this
    · refine (List.nodup_iff_pairwise_ne.1 hn).imp_of_mem (fun {a b} ha hb hab x hx y hy e => hab (h1 a ha b hb ?_))
      obtain ⟨n, hn1, rfl⟩ := List.mem_map.1 hx
      obtain ⟨m, hm1, rfl⟩ := List.mem_map.1 hy
      unfold eqv
      have e2 : a⁻¹ * b = n * m⁻¹ := by
        have e3 : b = a * n * m⁻¹ := by rw [e, El.ass, El.ir, El.or]
        rw [e3, El.ass, El.ilc]
      rw [e2]
      exact S.mul _ _ (elsIn_mem.1 hn1) (S.inv _ (elsIn_mem.1 hm1))
  · intro x
    rw [List.mem_flatMap]
    constructor
    · rintro ⟨t, ht, hx⟩
      obtain ⟨n, hn1, rfl⟩ := List.mem_map.1 hx
      exact hc t ht n (elsIn_mem.1 hn1)
    · intro hx
      obtain ⟨t, ht, h⟩ := h2 x hx
      exact ⟨t, ht, List.mem_map.2 ⟨t⁻¹ * x, elsIn_mem.2 h, El.irc t x⟩⟩

open Classical in
/-- the product of the orders at the depths with a property, f of them from d on -/
noncomputable def prd (P : Pr) (Q : Nat → Prop) : Nat → Nat → Nat
  | 0, _ => 1
  | f + 1, d => (if Q d then (gt P.orders d).toNat else 1) * prd P Q f (d + 1)
theorem prd_congr {Q R : Nat → Prop} : ∀ f d, (∀ k, d ≤ k → k < d + f → (Q k ↔ R k)) → prd P Q f d = prd P R f d
  | 0, _, _ => rfl
  | f + 1, d, h => by
    have h1 := h d (by omega) (by omega)
    unfold prd
    rw [prd_congr f (d + 1) (fun k a b => h k (by omega) (by omega))]
    by_cases hq : Q d
    · rw [if_pos hq, if_pos (h1.1 hq)]
    · rw [if_neg hq, if_neg (fun hr => hq (h1.2 hr))]
theorem prd_mul {Q R : Nat → Prop} : ∀ f d, (∀ k, d ≤ k → k < d + f → Q k → ¬ R k) → prd P Q f d * prd P R f d = prd P (fun k => Q k ∨ R k) f d
  | 0, _, _ => rfl
  | f + 1, d, h => by
    have h1 := h d (by omega) (by omega)
    have ih := prd_mul f (d + 1) (fun k a b => h k (by omega) (by omega))
    unfold prd
    rw [← ih]
    by_cases hq : Q d
    · rw [if_pos hq, if_neg (h1 hq), if_pos (.inl hq)]
      simp only [Nat.one_mul, Nat.mul_assoc]
    · by_cases hr : R d
      · rw [if_neg hq, if_pos hr, if_pos (.inr hr)]
        simp only [Nat.one_mul, Nat.mul_left_comm]
      · rw [if_neg hq, if_neg hr, if_neg (fun hh => hh.elim hq hr)]
        simp only [Nat.one_mul]
/-- the order of a subgroup, by its depths -/
theorem cd_pv {H : El G → Prop} (S : SG H) : ∀ f d, d + f = P.orders.length → cd (fun x => H x ∧ dT d x) = prd P (pv H) f d
  | 0, d, hd => by
    have : d = P.orders.length := by omega
    subst this
    have := cd_list (H := fun x => H x ∧ dT P.orders.length x) (l := [(1 : El G)]) (by simp) (fun x => by
      rw [List.mem_singleton]
      exact ⟨fun e => by rw [e]; exact ⟨S.one, (dT_sg (Nat.le_refl _)).one⟩, fun h => dT_top h.2⟩)
    exact this
  | f + 1, d, hd => by
    have hdn : d < P.orders.length := by omega
    have ih := cd_pv S f (d + 1) (by omega)
    have S' : SG (fun x => H x ∧ dT (d + 1) x) := S.and (dT_sg (by omega))
    have Sd : SG (dT (G := G) d) := dT_sg (by omega)
    rw [prd, ← ih]
    by_cases hp : pv H d
    · rw [if_pos hp]
      obtain ⟨_, y0, hy0, hT0, hn0⟩ := hp
      obtain ⟨q, hq1, hq2, hq3⟩ := ordN G hdn
      obtain ⟨j, hj⟩ := lead_hit hdn hT0 hn0 (c := 1) (by omega)
      obtain ⟨y, hy⟩ : ∃ y, y = ep y0 j := ⟨_, rfl⟩
      have hyH : H y := by rw [hy]; exact S.ep hy0 j
      have hyT : dT d y := by rw [hy]; exact ep_dT (by omega) hT0 j
      have hy1 : gt y.1 d = 1 := by rw [hy]; exact hj
      have hat : ∀ i, i < q → gt (ep y i).1 d = (i : Int) := fun i hi => by
        rw [ep_at hdn hyT, hy1, hq1, Int.mul_one, Int.emod_eq_of_lt (by omega) (by omega)]
      have hinj : ∀ i j, i < q → j < q → eqv (fun x => H x ∧ dT (d + 1) x) (ep y i) (ep y j) → i = j := fun i j hi hj h => by
        have := el_same hdn h.2
        rw [hat i hi, hat j hj] at this
        omega
      have hl : ((List.range q).map (fun i => ep y i)).length = (gt P.orders d).toNat := by rw [List.length_map, List.length_range, hq2]
      rw [← hl]
      refine cd_mul S' ?_ ?_ ?_ ?_
      · refine List.nodup_iff_pairwise_ne.2 ?_
        rw [List.pairwise_map]
        refine (List.nodup_iff_pairwise_ne.1 List.nodup_range).imp_of_mem (fun {a b} ha hb hab e => hab (hinj a b (List.mem_range.1 ha) (List.mem_range.1 hb) ?_))
        rw [e]; exact eqv_refl S' _
      · intro t ht n hn
        obtain ⟨i, _, rfl⟩ := List.mem_map.1 ht
        exact ⟨S.mul _ _ (S.ep hyH i) hn.1, Sd.mul _ _ (Sd.ep hyT i) (dT_down hn.2)⟩
      · intro t ht u hu h
        obtain ⟨i, hi, rfl⟩ := List.mem_map.1 ht
        obtain ⟨k, hk, rfl⟩ := List.mem_map.1 hu
        rw [hinj i k (List.mem_range.1 hi) (List.mem_range.1 hk) h]
      · intro x hx
        have hb := x.2.2 d hdn
        refine ⟨ep y (gt x.1 d).toNat, List.mem_map.2 ⟨_, List.mem_range.2 (by omega), rfl⟩, S.mul _ _ (S.inv _ (S.ep hyH _)) hx.1, el_diff hdn (Sd.ep hyT _) hx.2 ?_⟩
        rw [hat _ (by omega)]; omega
    · rw [if_neg hp, Nat.one_mul]
      exact cd_congr (fun x => ⟨fun h => ⟨h.1, dT_up h.2 (Classical.byContradiction fun h0 => hp ⟨hdn, x, h.1, h.2, h0⟩)⟩, fun h => ⟨h.1, dT_down h.2⟩⟩)
theorem cd_eq {H : El G → Prop} (S : SG H) : cd H = prd P (pv H) P.orders.length 0 := by
  rw [← cd_pv S _ _ (Nat.zero_add _)]
  exact cd_congr (fun x => ⟨fun h => ⟨h, dT_zero x⟩, fun h => h.1⟩)
end

end Go.Proofs.YtldheeicjnncoaaGreat
