/-
  Moebius values of the lattice: the sum over all subgroups above one; the number of generating lists.
  spec.l19Full: the lattice by the reference.
  The list of all subgroups as one value; its bounds.
  spec.l19Code, l19All, l19Own.
  The library's sort on a slice that the call has built: any elements of one cell in blocks of their own, any comparison that lays blocks and draws but turns nothing.
  The library's sort at [][][]int64 with the lattice's comparison.
  The members that a mask tells, one after the other.
  The key tells the subgroup.
  impl.latticeOf.
  AllSubgroups on both sides.
  The laws' look at marked rows of rows: laws.heldInt64SS, heldInt64SSS.
  The laws' look at marked rows of rows: laws.heldInt64SS, heldInt64SSS.
  Three-fold lists in blocks of their own: a reading that names its blocks.
  The rows' arguments: how a presentation that came in, or a list, reads in this claim's words.
-/
import Derived.Test.YtigbpdaomgagiaaGreatK8
import Derived.Test.YtigbpdaomgagiaaGreatK9
import Derived.Test.YtigbpdaomgagiaaGreatK7
import Derived.Test.YtigbpdaomgagiaaGreatK6
import Derived.Test.YtigbpdaomgagiaaGreatK5
import Derived.Test.YtigbpdaomgagiaaGreatK2
import Derived.Carry
import Derived.Deep.Slices
import Derived.ChangeSame
import Derived.ChangeSlices
import Derived.JoinedOf
import Derived.JoinedAt
import Derived.JoinedCond
import Derived.ReadAgain
/- Moebius values of the lattice: the sum over all subgroups above one; the number of generating lists. -/
namespace Go.Proofs.YtigbpdaomgagiaaGreat
open Go.RowKit

def sumN (f : Nat → Int) : Nat → Int
  | 0 => 0
  | n + 1 => sumN f n + f n

theorem sumN_congr {f g : Nat → Int} : ∀ n, (∀ i, i < n → f i = g i) → sumN f n = sumN g n
  | 0, _ => rfl
  | n + 1, h => by
    simp only [sumN]
    rw [sumN_congr n (fun i hi => h i (by omega)), h n (by omega)]
theorem sumN_zero : ∀ n, sumN (fun _ => 0) n = 0
  | 0 => rfl
  | n + 1 => by simp only [sumN, sumN_zero n]; omega
theorem sumN_add (f g : Nat → Int) : ∀ n, sumN (fun i => f i + g i) n = sumN f n + sumN g n
  | 0 => rfl
  | n + 1 => by simp only [sumN, sumN_add f g n]; omega
theorem sumN_mul (c : Int) (f : Nat → Int) : ∀ n, sumN (fun i => c * f i) n = c * sumN f n
  | 0 => by simp [sumN]
  | n + 1 => by simp only [sumN, sumN_mul c f n, Int.mul_add]
theorem sumN_swap (f : Nat → Nat → Int) (m : Nat) : ∀ n, sumN (fun i => sumN (fun j => f i j) m) n = sumN (fun j => sumN (fun i => f i j) n) m
  | 0 => by simp only [sumN]; exact (sumN_zero m).symm
  | n + 1 => by
    simp only [sumN]
    rw [sumN_swap f m n, ← sumN_add]
theorem sumN_split (f : Nat → Int) (a : Nat) : ∀ b, sumN f (a + b) = sumN f a + sumN (fun i => f (a + i)) b
  | 0 => by simp [sumN]
  | b + 1 => by
    rw [show a + (b + 1) = (a + b) + 1 by omega]
    simp only [sumN]
    rw [sumN_split f a b]; omega
theorem sumN_nonneg {f : Nat → Int} : ∀ n, (∀ i, i < n → 0 ≤ f i) → 0 ≤ sumN f n
  | 0, _ => by simp [sumN]
  | n + 1, h => by
    simp only [sumN]
    have := sumN_nonneg n (fun i hi => h i (by omega))
    have := h n (by omega)
    omega
theorem sumN_one_le {f : Nat → Int} : ∀ n, (∀ i, i < n → 0 ≤ f i) → ∀ j, j < n → f j ≤ sumN f n
  | n + 1, h, j, hj => by
    simp only [sumN]
    by_cases hjn : j < n
    · have := sumN_one_le n (fun i hi => h i (by omega)) j hjn
      have := h n (by omega)
      omega
    · obtain rfl : j = n := by omega
      have := sumN_nonneg j (fun i hi => h i (by omega))
      omega
theorem sumN_le {f : Nat → Int} (b : Int) : ∀ n : Nat, (∀ i, i < n → f i ≤ b) → sumN f n ≤ n * b
  | 0, _ => by simp [sumN]
  | n + 1, h => by
    simp only [sumN]
    have h1 := sumN_le b n (fun i hi => h i (by omega))
    have h2 := h n (by omega)
    have h3 : ((n + 1 : Nat) : Int) * b = (n : Int) * b + b := by rw [Int.natCast_add, Int.add_mul]; simp
    omega

section
variable {P : Pr} (G : Grp P)
include G

theorem Grp.order_elems {H : List Int → Prop} (S : Sub P H) : prodU P (cseq P H) (cseq P H).length = (elemsIn P H).length := by
  rw [← G.els_sorted S, (sortL_perm _).length_eq]
  exact (elsP_len G.v (G.seq_facts S).1 _ (Nat.le_refl _)).symm

omit G in
theorem elemsIn_nodup {P : Pr} (hP : Valid P) (H : List Int → Prop) : (elemsIn P H).Nodup :=
  List.nodup_iff_pairwise_ne.2 ((elemsIn_asc hP H).imp (fun {a b} h e => by subst e; omega))

theorem Grp.order_le {H K : List Int → Prop} (S : Sub P H) (R : Sub P K) (h : ∀ x, H x → K x) : prodU P (cseq P H) (cseq P H).length ≤ prodU P (cseq P K) (cseq P K).length ∧
    (prodU P (cseq P H) (cseq P H).length = prodU P (cseq P K) (cseq P K).length → ∀ x, K x → H x) := by
  rw [G.order_elems S, G.order_elems R]
  have hP := G.v
  have hH := elemsIn_mem hP S.vec
  have hK := elemsIn_mem hP R.vec
  have hs : ∀ x ∈ elemsIn P H, x ∈ elemsIn P K := fun x hx => (hK x).2 (h x ((hH x).1 hx))
  have h1 := nodup_sub_len _ _ (elemsIn_nodup hP H) hs
  refine ⟨by omega, fun he x hx => Classical.byContradiction fun hn => ?_⟩
  have hn' : (x :: elemsIn P H).Nodup := List.nodup_cons.2 ⟨fun hm => hn ((hH x).1 hm), elemsIn_nodup hP H⟩
  have h2 := nodup_sub_len _ (elemsIn P K) hn' (fun y hy => by
    rcases List.mem_cons.1 hy with rfl | hy
    · exact (hK _).2 hx
    · exact hs y hy)
  simp only [List.length_cons] at h2
  omega

theorem Grp.inM_iff {H K : List Int → Prop} (S : Sub P H) (_R : Sub P K) : inM (msk P H) (msk P K) = true ↔ ∀ x, H x → K x := by
  unfold inM
  rw [decide_eq_true_iff]
  constructor
  · intro h x hx
    obtain ⟨h1, h2⟩ := G.num_lt (S.vec x hx)
    have hb : (msk P H).testBit (num P x).toNat = true := (msk_bit h1).2 (by rw [h2]; exact hx)
    rw [← h, Nat.testBit_and, Bool.and_eq_true] at hb
    have := (msk_bit h1).1 hb.2
    rwa [h2] at this
  · intro h
    apply Nat.eq_of_testBit_eq
    intro t
    rw [Nat.testBit_and]
    by_cases ht : t < (ordP P).toNat
    · cases hb : (msk P H).testBit t
      · rfl
      · have := (msk_bit (P := P) (H := K) ht).2 (h _ ((msk_bit ht).1 hb))
        rw [this]; rfl
    · rw [msk_high (by omega)]; rfl

/-- in ascending order no later subgroup lies in an earlier one -/
theorem Grp.lat_up {L : List (List (List Int))} (h : LatL P L) {i j : Nat} (hij : i < j) (hj : j < L.length) : inM (mskU P (gt L j)) (mskU P (gt L i)) = false := by
  have hbi := (h.2 _).1 (gt_mem (l := L) (i := i) (by omega))
  have hbj := (h.2 _).1 (gt_mem hj)
  have hlt := List.pairwise_iff_getElem.1 h.1 i j (by omega) hj hij
  rw [← gt_eq L i (by omega), ← gt_eq L j hj] at hlt
  cases hb : inM (mskU P (gt L j)) (mskU P (gt L i)) with
  | false => rfl
  | true =>
    exfalso
    have hin := (G.inM_iff (G.subB hbj) (G.subB hbi)).1 hb
    obtain ⟨h1, h2⟩ := G.order_le (G.subB hbj) (G.subB hbi) hin
    rw [← hbi.2, ← hbj.2] at h1 h2
    rcases hlt with hl | ⟨he, hl⟩
    · omega
    · have h3 := h2 he.symm
      have : genP P (fun x => x ∈ gt L j) = genP P (fun x => x ∈ gt L i) := funext fun x => propext ⟨hin x, h3 x⟩
      have e : gt L i = gt L j := by rw [hbi.2, hbj.2, this]
      rw [e, (cmpL_zero _ _).2 rfl] at hl
      omega

/-- the last one is the whole group -/
theorem Grp.lat_top {L : List (List (List Int))} (h : LatL P L) : 0 < L.length ∧ gt L (L.length - 1) = cseq P (Vec P.orders) := by
  have hw := (h.2 (cseq P (Vec P.orders))).2 (G.subB_cseq G.sub_all)
  obtain ⟨i, hi, he⟩ := mem_gt hw
  refine ⟨by omega, ?_⟩
  by_cases hl : i = L.length - 1
  · rw [← hl]; exact he
  · exfalso
    have hbj := (h.2 _).1 (gt_mem (l := L) (i := L.length - 1) (by omega))
    have := G.lat_up h (i := i) (j := L.length - 1) (by omega) (by omega)
    rw [he, G.mskU_cseq G.sub_all] at this
    have h2 := (G.inM_iff (G.subB hbj) G.sub_all).2 (fun x hx => (G.subB hbj).vec x hx)
    unfold mskU at this
    rw [h2] at this; cases this

/-- the Moebius sum above one subgroup -/
theorem Grp.mob_sum {L : List (List (List Int))} (h : LatL P L) {j : Nat} (hj : j < L.length) :
    sumN (fun i => if inM (mskU P (gt L j)) (mskU P (gt L i)) then gt (mobL (L.map (mskU P))) i else 0) L.length = if j + 1 = L.length then 1 else 0 := by
  obtain ⟨ms, hms⟩ : ∃ ms, ms = L.map (mskU P) := ⟨_, rfl⟩
  have hml : ms.length = L.length := by rw [hms, List.length_map]
  have hgm : ∀ i, i < L.length → gt ms i = mskU P (gt L i) := fun i hi => by rw [hms]; exact gt_map _ _ _ hi
  rw [← hms]
  have e1 : L.length = (j + 1) + (L.length - (j + 1)) := by omega
  have hf : sumN (fun i => if inM (mskU P (gt L j)) (mskU P (gt L i)) then gt (mobL ms) i else 0) L.length = sumN (fun i => if inM (gt ms j) (gt ms i) then gt (mobL ms) i else 0) L.length :=
    sumN_congr _ fun i hi => by rw [hgm i hi, hgm j hj]
  rw [hf, e1, sumN_split]
  have h1 : sumN (fun i => if inM (gt ms j) (gt ms i) then gt (mobL ms) i else 0) (j + 1) = gt (mobL ms) j := by
    simp only [sumN]
    have h0 : sumN (fun i => if inM (gt ms j) (gt ms i) then gt (mobL ms) i else 0) j = sumN (fun _ => 0) j := sumN_congr _ fun i hi => by
      rw [hgm j hj, hgm i (by omega), G.lat_up h hi hj]; rfl
    have hself : inM (gt ms j) (gt ms j) = true := by unfold inM; rw [Nat.and_self]; simp
    rw [h0, sumN_zero, hself]; simp
  have h2 : ∀ n, sumN (fun i => (fun i => if inM (gt ms j) (gt ms i) then gt (mobL ms) i else 0) (j + 1 + i)) n = sumTo ms (mobL ms) j n := by
    intro n
    induction n with
    | zero => rfl
    | succ n ih => simp only [sumN, sumTo, ih]
  rw [h1, h2, gt_mobL ms j (by omega), hml]
  by_cases hc : j + 1 = L.length
  · rw [if_pos hc, if_pos (by omega), show L.length - (j + 1) = 0 by omega]; rfl
  · rw [if_neg hc, if_neg (by omega)]; omega

end

open Classical in
/-- the number of lists of k elements that generate the group together with H -/
noncomputable def cntG (P : Pr) : Nat → (List Int → Prop) → Int
  | 0, H => if ∀ x, Vec P.orders x → H x then 1 else 0
  | k + 1, H => sumN (fun t => cntG P k (extP P H (elAt P (t : Int)))) (ordP P).toNat

theorem cntG_nonneg (P : Pr) : ∀ k H, 0 ≤ cntG P k H
  | 0, H => by unfold cntG; split <;> omega
  | k + 1, H => by unfold cntG; exact sumN_nonneg _ fun i _ => cntG_nonneg P k _

theorem cntG_le (P : Pr) (h : ordP P ≤ 32) (hp : 0 ≤ ordP P) : ∀ k H, cntG P k H ≤ 32 ^ k
  | 0, H => by unfold cntG; split <;> simp
  | k + 1, H => by
    unfold cntG
    have h1 := sumN_le (f := fun t => cntG P k (extP P H (elAt P (t : Int)))) (32 ^ k) (ordP P).toNat (fun i _ => cntG_le P h hp k _)
    have h2 : (((ordP P).toNat : Nat) : Int) * 32 ^ k ≤ 32 * 32 ^ k := Int.mul_le_mul_of_nonneg_right (by omega) (Int.pow_nonneg (by omega))
    have h3 : (32 : Int) ^ (k + 1) = 32 * 32 ^ k := by rw [Int.pow_succ, Int.mul_comm]
    omega

section
variable {P : Pr} (G : Grp P)
include G

omit G in
theorem ext_le {H K : List Int → Prop} (_S : Sub P H) (R : Sub P K) {x : List Int} : (∀ y, extP P H x y → K y) ↔ (∀ y, H y → K y) ∧ K x := by
  constructor
  · intro h
    exact ⟨fun y hy => h y (fun Q SQ hQ => hQ y (.inl hy)), h x (fun Q SQ hQ => hQ x (.inr rfl))⟩
  · rintro ⟨h1, h2⟩ y hy
    exact hy K R (fun z hz => hz.elim (h1 z) (fun e => e ▸ h2))

open Classical in
theorem Grp.order_sum {K : List Int → Prop} (R : Sub P K) : prodU P (cseq P K) (cseq P K).length = sumN (fun t => if K (elAt P (t : Int)) then 1 else 0) (ordP P).toNat := by
  rw [G.order_elems R]
  unfold elemsIn
  have : ∀ n, (((List.range n).filterMap (fun t : Nat => if K (elAt P (t : Int)) then some (elAt P (t : Int)) else none)).length : Int) = sumN (fun t => if K (elAt P (t : Int)) then 1 else 0) n := by
    intro n
    induction n with
    | zero => rfl
    | succ n ih =>
      rw [List.range_succ, List.filterMap_append, List.length_append, Int.natCast_add, ih]
      simp only [sumN]
      congr 1
      by_cases hk : K (elAt P (n : Int)) <;> simp [hk]
  exact this _

open Classical in
/-- Hall's sum: the Moebius values and the powers of the orders -/
theorem Grp.hall_sum {L : List (List (List Int))} (h : LatL P L) : ∀ (k : Nat) (H : List Int → Prop), Sub P H →
    sumN (fun i => if inM (msk P H) (mskU P (gt L i)) then gt (mobL (L.map (mskU P))) i * prodU P (gt L i) (gt L i).length ^ k else 0) L.length = cntG P k H
  | 0, H, S => by
    obtain ⟨j, hj, e⟩ := mem_gt ((h.2 _).2 (G.subB_cseq S))
    have h1 := G.mob_sum h hj
    rw [e, G.mskU_cseq S] at h1
    have h2 : sumN (fun i => if inM (msk P H) (mskU P (gt L i)) then gt (mobL (L.map (mskU P))) i * prodU P (gt L i) (gt L i).length ^ 0 else 0) L.length =
        sumN (fun i => if inM (msk P H) (mskU P (gt L i)) then gt (mobL (L.map (mskU P))) i else 0) L.length := sumN_congr _ fun i hi => by rw [Int.pow_zero, Int.mul_one]
    rw [h2, h1]
    unfold cntG
    obtain ⟨t1, t2⟩ := G.lat_top h
    have hiff : (j + 1 = L.length) ↔ (∀ x, Vec P.orders x → H x) := by
      constructor
      · intro hjl
        have : gt L j = gt L (L.length - 1) := by congr 1; omega
        rw [e, t2] at this
        have e2 : H = Vec P.orders := by rw [← G.genP_cseq S, this, G.genP_cseq G.sub_all]
        intro x hx; rw [e2]; exact hx
      · intro hx
        have e2 : H = Vec P.orders := funext fun x => propext ⟨S.vec x, hx x⟩
        refine Classical.byContradiction fun hc => ?_
        have := G.lat_up h (i := j) (j := L.length - 1) (by omega) (by omega)
        rw [e, t2, e2, G.mskU_cseq G.sub_all] at this
        unfold inM at this; rw [Nat.and_self] at this; simp at this
    by_cases hc : j + 1 = L.length
    · rw [if_pos hc, if_pos (hiff.1 hc)]
    · rw [if_neg hc, if_neg (fun h => hc (hiff.2 h))]
  | k + 1, H, S => by
    unfold cntG
    have h1 : ∀ t, t < (ordP P).toNat → cntG P k (extP P H (elAt P (t : Int))) =
        sumN (fun i => if inM (msk P (extP P H (elAt P (t : Int)))) (mskU P (gt L i)) then gt (mobL (L.map (mskU P))) i * prodU P (gt L i) (gt L i).length ^ k else 0) L.length :=
      fun t ht => (Grp.hall_sum h k _ (G.ext_sub S (G.elAtV ht))).symm
    rw [sumN_congr _ h1, sumN_swap]
    refine sumN_congr _ fun i hi => ?_
    have hb := (h.2 _).1 (gt_mem hi)
    have R := G.subB hb
    have ho := G.order_sum R
    rw [← hb.2] at ho
    obtain ⟨v, hv⟩ : ∃ v, v = gt (mobL (L.map (mskU P))) i := ⟨_, rfl⟩
    obtain ⟨q, hq⟩ : ∃ q, q = prodU P (gt L i) (gt L i).length := ⟨_, rfl⟩
    rw [← hv, ← hq]
    rw [← hq] at ho
    have hterm : ∀ t, t < (ordP P).toNat → (if inM (msk P (extP P H (elAt P (t : Int)))) (mskU P (gt L i)) then v * q ^ k else 0) =
        (if inM (msk P H) (mskU P (gt L i)) then v * q ^ k else 0) * (if genP P (fun x => x ∈ gt L i) (elAt P (t : Int)) then 1 else 0) := by
      intro t ht
      have SE := G.ext_sub S (G.elAtV ht)
      have e1 := G.inM_iff SE R
      have e2 := G.inM_iff S R
      have e3 := ext_le S R (x := elAt P (t : Int))
      unfold mskU
      by_cases hA : inM (msk P H) (msk P (genP P (fun x => x ∈ gt L i))) = true
      · by_cases hB : genP P (fun x => x ∈ gt L i) (elAt P (t : Int))
        · rw [if_pos (e1.2 (e3.2 ⟨e2.1 hA, hB⟩)), if_pos hA, if_pos hB, Int.mul_one]
        · rw [if_neg (fun hc => hB (e3.1 (e1.1 hc)).2), if_neg hB, Int.mul_zero]
      · rw [if_neg (fun hc => hA (e2.2 (e3.1 (e1.1 hc)).1)), if_neg hA, Int.zero_mul]
    rw [sumN_congr _ hterm, sumN_mul, ← ho]
    by_cases hA : inM (msk P H) (mskU P (gt L i)) = true
    · rw [if_pos hA, if_pos hA, Int.pow_succ, Int.mul_assoc]
    · rw [if_neg hA, if_neg hA, Int.zero_mul]

/-- the sum over all subgroups: the generating lists -/
theorem Grp.tuples_eq {L : List (List (List Int))} (h : LatL P L) (k : Nat) :
    sumN (fun i => gt (mobL (L.map (mskU P))) i * prodU P (gt L i) (gt L i).length ^ k) L.length = cntG P k (fun x => x = zeros P.orders.length) := by
  rw [← G.hall_sum h k _ G.sub_one]
  refine sumN_congr _ fun i hi => ?_
  have hb := (h.2 _).1 (gt_mem hi)
  have R := G.subB hb
  have := (G.inM_iff G.sub_one R).2 (fun x hx => by rw [hx]; exact R.one)
  unfold mskU at this ⊢
  rw [if_pos this]

theorem Grp.cnt_pos {xs : List (List Int)} (hx : ∀ x ∈ xs, Vec P.orders x) : ∀ {H : List Int → Prop}, Sub P H → (∀ y, Vec P.orders y → genP P (fun z => H z ∨ z ∈ xs) y) → 0 < cntG P xs.length H := by
  induction xs with
  | nil =>
    intro H S h
    show 0 < cntG P 0 H
    unfold cntG
    rw [if_pos]
    · decide
    · intro y hy
      exact h y hy H S (fun z hz => hz.elim id (fun h => by cases h))
  | cons x xs ih =>
    intro H S h
    show 0 < cntG P (xs.length + 1) H
    unfold cntG
    obtain ⟨h1, h2⟩ := G.num_lt (hx x (List.mem_cons_self ..))
    have hp := ih (fun y hy => hx y (List.mem_cons_of_mem _ hy)) (G.ext_sub S (hx x (List.mem_cons_self ..))) (fun y hy => by
      intro K R hK
      refine h y hy K R (fun z hz => ?_)
      rcases hz with hz | hz
      · exact hK z (.inl (fun Q SQ hQ => hQ z (.inl hz)))
      · rcases List.mem_cons.1 hz with rfl | hz
        · exact hK _ (.inl (fun Q SQ hQ => hQ _ (.inr rfl)))
        · exact hK z (.inr hz))
    have := sumN_one_le (f := fun t => cntG P xs.length (extP P H (elAt P (t : Int)))) (ordP P).toNat (fun i _ => cntG_nonneg P _ _) _ h1
    simp only [h2] at this
    omega

/-- as many elements as there are generators do generate -/
theorem Grp.cnt_gens : 0 < cntG P P.orders.length (fun x => x = zeros P.orders.length) := by
  have h := G.cnt_pos (xs := (List.range P.orders.length).map (unitV P.orders.length)) (fun x hx => by
    obtain ⟨j, _, rfl⟩ := List.mem_map.1 hx
    exact unitV_vec G.v j) G.sub_one (fun y hy => by
      have hS := G.genP_sub (Q := fun z => z = zeros P.orders.length ∨ z ∈ (List.range P.orders.length).map (unitV P.orders.length)) (fun z hz => by
        rcases hz with rfl | hz
        · exact G.oneV
        · obtain ⟨j, _, rfl⟩ := List.mem_map.1 hz
          exact unitV_vec G.v j)
      refine G.gen_ind _ hS.one (fun y j hy h hj => ?_) hy
      exact hS.mul _ _ h (fun Q SQ hQ => hQ _ (.inr (List.mem_map.2 ⟨j, List.mem_range.2 hj, rfl⟩))))
  simpa using h

end
end Go.Proofs.YtigbpdaomgagiaaGreat

/- spec.l19Full: the lattice by the reference. -/
namespace Go.Proofs.YtigbpdaomgagiaaGreat
open Go.RowKit

/-- the generators that are kept beside the masks -/
structure GensOk (P : Pr) (M : List Nat) (GS : List (List Nat)) : Prop where
  len : GS.length = M.length
  at' : ∀ j, j < M.length → gt M j = msk P (genN P (gt GS j)) ∧ (∀ g ∈ gt GS j, g < (ordP P).toNat) ∧ (gt GS j).length ≤ j

theorem GensOk.app {P : Pr} {M : List Nat} {GS : List (List Nat)} (h : GensOk P M GS) {k t : Nat} (hk : k < M.length) (ht : t < (ordP P).toNat) : GensOk P (M ++ [msk P (genN P (gt GS k ++ [t]))]) (GS ++ [gt GS k ++ [t]]) := by
  refine ⟨by simp [h.len], fun j hj => ?_⟩
  simp only [List.length_append, List.length_singleton] at hj
  by_cases hjl : j < M.length
  · rw [gt_append_left _ _ _ hjl, gt_append_left _ _ _ (by rw [h.len]; exact hjl)]
    exact h.at' j hjl
  · have : j = M.length := by omega
    subst this
    rw [gt_concat, ← h.len, gt_concat]
    obtain ⟨h1, h2, h3⟩ := h.at' k hk
    have hln := h.len
    refine ⟨rfl, fun g hg => ?_, by simp; omega⟩
    rcases List.mem_append.1 hg with h4 | h4
    · exact h2 g h4
    · rw [List.mem_singleton.1 h4]; exact ht

theorem gensOk_start {P : Pr} (G : Grp P) : GensOk P [1] [[]] := by
  refine ⟨rfl, fun j hj => ?_⟩
  have : j = 0 := by simp at hj; omega
  subst this
  refine ⟨?_, fun g hg => (by cases hg), by simp [gt]⟩
  show (1 : Nat) = msk P (genN P [])
  rw [G.genN_nil, G.msk_one]

theorem natI_eqB {a b : Nat} : ((a : Int) == (b : Int)) = decide (a = b) := by
  by_cases h : a = b
  · subst h; simp
  · have : ¬ (a : Int) = b := by omega
    simp [h, this]

theorem SlO.low {α : Type} [Inhabited α] {El : (Nat → Prop) → World → Value → α → Prop} {E B : Nat} {A : Nat → Prop} {w : World} {v : Value} {xs : List α} (h : SlO El E B w v xs) (hA : ∀ k, A k → k < B) : SlOA El E B A w v xs := by
  obtain ⟨vs, G, h1, h2, h3, h4, h5⟩ := h
  exact ⟨vs, G, h1, h2, h3, h4, h5, fun i k hi hk ha => by have := (h3 i k hi hk).1; have := hA k ha; omega, fun k hk ha => by have := (h2.lt k hk).1; have := hA k ha; omega⟩

theorem wp_app_intA {ops : Array Oper} {rest : List Oper} {o : Oper} {a : Act} {Q : Exit → Act → World → Prop} {w : World} (hgd : o.guard = none) (s x : Operand)
    (ho : o.op = Op.call { callee := Callee.builtin Builtin.append, args := #[s, x], argTypes := #[22, 22] }) (B : Nat) (v : Value) (l : List Int) (y : Int) (hs : a.eval s = v) (w2 : World) (hown : Own B w2 v l)
    (hw : w = w2.alloc (.cells #[.int .i64 y] 2)) (hx : a.eval x = .slice (some ⟨w2.heap.size, 0, none⟩) 1 1) (hlen : l.length ≤ 1000000) (hbase : B ≤ w2.heap.size)
    (h : ∀ v' w', Own B w' v' (l ++ [y]) → w2.grownBy w' v.ownBlock → (∀ k, v'.ownBlock = some k → v.ownBlock = some k ∨ w2.heap.size ≤ k) → wpList Tryz.prog ops Q rest (a.put o.dst v') w') :
    wpList Tryz.prog ops Q (o :: rest) a w := by
  subst hw
  have hga : Ext w2 (w2.alloc (.cells #[.int .i64 y] 2)) := World.grownBy_alloc _ _ _
  refine wp_app 22 2 (.int .i64 0) 8 und_ints Tryz.infoInt rfl (by decide) hgd s x ho B v (l.map (Value.int .i64)) hs (hown.ext0 hga).v (some ⟨w2.heap.size, 0, none⟩) 1 1 [.int .i64 y] hx rfl (by simp) ?_ ?_ (by simp; omega) (by have := hga.size; omega) ?_
  · intro j hj
    have : j = 0 := by omega
    subst this
    exact ⟨_, _, rfl, by rw [World.cell?_alloc_at _ _ _ _ rfl]; rfl⟩
  · intro u' hu'
    simp at hu'; subst hu'; rfl
  · intro v' w' h1 h2 _ hat
    refine h v' w' (Own.of (by rw [List.map_append]; exact h1)) (grown_trans (grown_of_ext _ hga) h2) (fun k hk => ?_)
    rcases hat with e | e
    · exact .inl (by rw [← e]; exact hk)
    · rw [e] at hk
      have : (w2.alloc (.cells #[.int .i64 y] 2)).heap.size = k := by simpa using hk
      exact .inr (by simp at this; omega)

set_option linter.unusedSimpArgs false in
set_option maxRecDepth 100000 in
set_option maxHeartbeats 16000000 in
theorem l19Full_ok (P : Pr) (G : Grp P) (w : World) (pv : Value) (Sp : Nat → Prop) (h32 : ordP P ≤ 32) (hpv : PresV Sp w pv P) :
    Calls Tryz.prog 76 #[pv] w (Ret w fun w' v => ∃ sv mv, v = .agg #[sv, mv] ∧ ∃ L, LatL P L ∧ Rows3 (From w.heap.size) w' sv L ∧ Ints (From w.heap.size) w' mv (natI (L.map (mskU P)))) := by
  have hP := G.v
  have hn6 := hP.n6
  have hpos := hP.ordP_pos
  obtain ⟨vo, vp, vc, rfl, h3⟩ := hpv
  have hp0 := PresP.box h3 31
  have hg0 : Ext w (w.alloc (.cells #[vo, vp, vc] 31)) := World.grownBy_alloc _ _ _
  obtain ⟨vo6, vp6, vc6, _, _, hc0, hc1, hc2, h36⟩ := hp0.at
  simp only [Nat.zero_add] at hc1 hc2
  have hs0 : (w.alloc (.cells #[vo, vp, vc] 31)).heap.size = w.heap.size + 1 := by simp
  have hg0b : Ext (w.alloc (.cells #[vo, vp, vc] 31)) ((w.alloc (.cells #[vo, vp, vc] 31)).alloc (.cells #[.slice none 0 0, .slice none 0 0] 77)) := World.grownBy_alloc _ _ _
  have hs1 : ((w.alloc (.cells #[vo, vp, vc] 31)).alloc (.cells #[.slice none 0 0, .slice none 0 0] 77)).heap.size = w.heap.size + 1 + 1 := by simp
  have hrc : ∀ k, k < 2 → ((w.alloc (.cells #[vo, vp, vc] 31)).alloc (.cells #[.slice none 0 0, .slice none 0 0] 77)).cell? ⟨w.heap.size + 1, k, none⟩ = some (.slice none 0 0) ∧ ((w.alloc (.cells #[vo, vp, vc] 31)).alloc (.cells #[.slice none 0 0, .slice none 0 0] 77)).frozen? ⟨w.heap.size + 1, k, none⟩ = false := fun k hk => by
    rw [← hs0]
    constructor
    · rw [World.cell?_alloc_at _ _ _ _ rfl]
      rcases (show k = 0 ∨ k = 1 by omega) with rfl | rfl <;> rfl
    · simp
  have hbx : ∀ w', Ext ((w.alloc (.cells #[vo, vp, vc] 31)).alloc (.cells #[.slice none 0 0, .slice none 0 0] 77)) w' → w'.cell? ⟨w.heap.size, 0, none⟩ = some vo6 ∧ w'.cell? ⟨w.heap.size, 1, none⟩ = some vp6 ∧ w'.cell? ⟨w.heap.size, 2, none⟩ = some vc6 := fun w' h => ⟨(grown_trans hg0b h).cell hc0 (by simp), (grown_trans hg0b h).cell hc1 (by simp), (grown_trans hg0b h).cell hc2 (by simp)⟩
  obtain ⟨N, hN⟩ : ∃ N, N = (ordP P).toNat := ⟨_, rfl⟩
  have hNo : ordP P = (N : Int) := by omega
  have hN32 : N ≤ 32 := by omega
  have hNpos : 1 ≤ N := by omega
  have hgw := grown_trans hg0 hg0b
  have h37 := Pres3.ext h36 hg0b
  have HB := Lib.hid (And.intro hbx (And.intro hs1 (And.intro hrc (And.intro hN hNo)))); clear hbx hs0 hs1 hp0 hN hNo hpos hrc h36 hg0b
  go_enter Tryz.func76, Tryz.ntmps76
  go_wp2_with fail
  clear hc0 hc1 hc2
  generalize hw0 : (w.alloc (.cells #[vo, vp, vc] 31)).alloc (.cells #[.slice none 0 0, .slice none 0 0] 77) = w0 at *
  clear hw0 hg0
  refine Calls.mono (l19Table_ok P G w0 _ Sp ⟨_, _, _, rfl, h3.ext hgw⟩) ?_
  rintro e1 w2 ⟨tv, rfl, hg2, hT⟩
  obtain ⟨at', capt, rfl, _, _⟩ := Sl.shape hT
  have hlen : (tabL P).length = N := by rw [tabL_len, HB.out.2.2.2.1]
  have htN : Rows2 Any w2 (.slice at' (tabL P).length capt) (tabL P) := Rows2.sub hT (fun _ _ _ => trivial)
  rw [hlen] at htN ⊢
  have HT := Lib.hid hlen; clear hT hlen
  have hgw2 := grown_trans hgw hg2
  -- the first mask and its generators
  have hOA : Own w2.heap.size (w2.alloc (.cells #[.int .i64 1] 2)) (.slice (some ⟨w2.heap.size, 0, none⟩) 1 1) (natI [1]) := World.ownsRow_lit w2 #[.int .i64 1] 1 (Nat.le_refl _) (by decide) rfl
  have hgA : Ext w2 (w2.alloc (.cells #[.int .i64 1] 2)) := World.grownBy_alloc _ _ _
  have hsA : (w2.alloc (.cells #[.int .i64 1] 2)).heap.size = w2.heap.size + 1 := by simp
  have hOB : Own (w2.heap.size + 1) ((w2.alloc (.cells #[.int .i64 1] 2)).alloc (.cells #[] 2)) (.slice (some ⟨w2.heap.size + 1, 0, none⟩) 0 0) (natI []) := by
    have : Own (w2.alloc (.cells #[.int .i64 1] 2)).heap.size ((w2.alloc (.cells #[.int .i64 1] 2)).alloc (.cells #[] 2)) (.slice (some ⟨(w2.alloc (.cells #[.int .i64 1] 2)).heap.size, 0, none⟩) 0 0) (natI []) := World.ownsRow_lit (w2.alloc (.cells #[.int .i64 1] 2)) #[] 0 (Nat.le_refl _) (by decide) rfl
    rw [hsA] at this; exact this
  have hgB : Ext (w2.alloc (.cells #[.int .i64 1] 2)) ((w2.alloc (.cells #[.int .i64 1] 2)).alloc (.cells #[] 2)) := World.grownBy_alloc _ _ _
  have hsB : ((w2.alloc (.cells #[.int .i64 1] 2)).alloc (.cells #[] 2)).heap.size = w2.heap.size + 1 + 1 := by simp
  have hOA2 := hOA.ext0 hgB
  have hgw2B := grown_trans hgA hgB
  obtain ⟨wB, hwB⟩ : ∃ wB, wB = (w2.alloc (.cells #[.int .i64 1] 2)).alloc (.cells #[] 2) := ⟨_, rfl⟩
  rw [← hwB] at hOB hsB hOA2 hgw2B
  have hlit : SlO OwnIn 22 (w2.heap.size + 1) (wB.alloc (.cells #[.slice (some ⟨w2.heap.size + 1, 0, none⟩) 0 0] 22)) (.slice (some ⟨wB.heap.size, 0, none⟩) 1 1) [natI []] := SlO.lit1 rdOwn (OwnIn.of hOB (by simp [natI]) (fun k h1 _ => h1)) (by omega)
  rw [hsB] at hlit
  have hgC : Ext wB (wB.alloc (.cells #[.slice (some ⟨w2.heap.size + 1, 0, none⟩) 0 0] 22)) := World.grownBy_alloc _ _ _
  have hOC := hOA2.ext0 hgC
  have hgw2C := grown_trans hgw2B hgC
  have hlitA : SlOA OwnIn 22 w2.heap.size (fun k => (Value.slice (some ⟨w2.heap.size, 0, none⟩) 1 1).ownBlock = some k) (wB.alloc (.cells #[.slice (some ⟨w2.heap.size + 1, 0, none⟩) 0 0] 22)) (.slice (some ⟨w2.heap.size + 1 + 1, 0, none⟩) 1 1) ([[]].map natI) := by
    have h1 := hlit.low (A := fun k => (Value.slice (some ⟨w2.heap.size, 0, none⟩) 1 1).ownBlock = some k) (fun k hk => by have := own_blk hk; omega)
    obtain ⟨vs, Gg, a1, a2, a3, a4, a5, a6, a7⟩ := h1
    exact ⟨vs, Gg, a1, OwnV.weak a2 (by omega), fun i k hi hk => by have := a3 i k hi hk; exact ⟨by omega, this.2⟩, a4, a5, a6, a7⟩
  obtain ⟨wC, hwC⟩ : ∃ wC, wC = wB.alloc (.cells #[.slice (some ⟨w2.heap.size + 1, 0, none⟩) 0 0] 22) := ⟨_, rfl⟩
  rw [← hwC] at hOC hgw2C hlitA
  have HC := Lib.hid (And.intro hOC (And.intro hgw2C (And.intro hlitA hsB))); clear hOA hOB hOA2 hlit hOC hlitA hgw2C hgC hgB hgA hgw2B hsA hsB
  go_wp2
  rw [← hwB, ← hwC]
  clear hwB hwC
  go_loopw [4, 5, 6] (fun fv gv kv wr => ∃ (M : List Nat) (GS : List (List Nat)) (k : Nat) (v4 v5 : Value), v4 = fv ∧ v5 = gv ∧ kv = .int .i64 k ∧ k ≤ M.length ∧ Ext w2 wr ∧ Own w2.heap.size wr v4 (natI M) ∧
    SlOA OwnIn 22 w2.heap.size (fun j => v4.ownBlock = some j) wr v5 (GS.map natI) ∧ Hid (Fnd P M k 0 ∧ GensOk P M GS)) (fun _ _ kv _ => 17409 - (intOf kv).toNat)
  case atStart => exact ⟨[1], [[]], 0, _, _, rfl, rfl, rfl, by simp, HC.out.2.1, HC.out.1, HC.out.2.2.1, Lib.hid ⟨by have := G.fnd_start; rw [G.msk_one] at this; exact this, gensOk_start G⟩⟩
  case round =>
    clear HC
    obtain ⟨M, GS, k, v4, v5, rfl, rfl, rfl, hk, hg, hO, hL, hF⟩ := hrel
    have hlM := G.fnd_len h32 hF.out.1
    have hOi := hO.ints (by rw [natI_len]; omega)
    obtain ⟨a4, c4, hv4, _, _⟩ := hOi.shape
    rw [natI_len] at hv4
    subst hv4
    by_cases hlt : k < M.length
    · have hlt' : (k : Int) < M.length := by omega
      obtain ⟨m, hm⟩ : ∃ m, m = gt M k := ⟨_, rfl⟩
      obtain ⟨gk, hgk⟩ : ∃ gk, gk = gt GS k := ⟨_, rfl⟩
      have HMG := Lib.hid (And.intro hm hgk); clear hOi
      go_wp2
      go_loopw [4, 5, 7] (fun fv gv tv wr => ∃ (M : List Nat) (GS : List (List Nat)) (t : Nat) (v4 v5 : Value), v4 = fv ∧ v5 = gv ∧ tv = .int .i64 t ∧ 1 ≤ t ∧ t ≤ N ∧ k < M.length ∧ Ext w2 wr ∧ Own w2.heap.size wr v4 (natI M) ∧
        SlOA OwnIn 22 w2.heap.size (fun j => v4.ownBlock = some j) wr v5 (GS.map natI) ∧ Hid (Fnd P M k t ∧ GensOk P M GS) ∧ Hid (m = gt M k ∧ gk = gt GS k)) (fun _ _ tv _ => N - (intOf tv).toNat)
      case atStart => exact ⟨M, GS, 1, _, _, rfl, rfl, rfl, by omega, hNpos, hlt, hg, hO, hL, Lib.hid ⟨hF.out.1.skip (fun H S _ _ => by rw [G.el_zero]; exact S.one), hF.out.2⟩, HMG⟩
      case round =>
        clear hO hL hF hlM hlt hlt' hk hm hgk HMG hg
        obtain ⟨M, GS, t, v4, v5, rfl, rfl, rfl, ht1, ht, hlt, hg, hO, hL, hF, HMG⟩ := hrel
        have hg0r := grown_trans hg2 hg
        obtain ⟨hc0, hc1, hc2⟩ := HB.out.1 wr hg0r
        have hor := l10Order_ok wr _ P Any hP ⟨_, _, _, rfl, Pres3.ext h37 hg0r⟩
        rw [HB.out.2.2.2.2] at hor
        have hlM := G.fnd_len h32 hF.out.1
        have hOi := hO.ints (by rw [natI_len]; omega)
        obtain ⟨a4, c4, hv4, _, _⟩ := hOi.shape
        rw [natI_len] at hv4
        subst hv4
        clear hOi
        go_wp2_with fail
        clear hc0 hc1 hc2
        refine Calls.mono hor ?_
        rintro eo wo ⟨vo', rfl, hgo, rfl⟩
        clear hor
        have hgo2 := grown_trans hg hgo
        have hOo := hO.ext0 hgo
        have hLo := hL.ext rdOwn hgo
        clear hO hL
        by_cases hltt : t < N
        · have hltt' : (t : Int) < N := by omega
          have hltk' : (k : Int) < M.length := by omega
          have hOi := hOo.ints (by rw [natI_len]; omega)
          obtain ⟨b4, o4, hb4, _, _, hcm⟩ := Ints.at (show Sl IntEl _ wo (.slice a4 M.length c4) (natI M) by rw [← natI_len] at hOi ⊢; exact hOi) k (by rw [natI_len]; exact hlt)
          subst hb4
          rw [natI_gt hlt, ← HMG.out.1] at hcm
          have hrem := bit_rem m t
          have htlt : t < (ordP P).toNat := by have := HB.out.2.2.2.1; omega
          cases hb : m.testBit t with
          | true =>
            rw [hb] at hrem
            have hrem : ((m : Int) / 2 ^ t).tmod 2 = 1 := hrem
            have hF2 := Lib.hid (And.intro (fnd_bit hF.out.1 htlt (by rw [← HMG.out.1]; exact hb)) hF.out.2)
            clear hF hb hOi
            go_wp2
            clear hrem hcm
            go_roundw
            case rel => exact ⟨M, GS, t + 1, _, v5, rfl, rfl, by go_num, by omega, by omega, hlt, hgo2, hOo, hLo, hF2, HMG⟩
            case measure => simp [intOf]; omega
          | false =>
            rw [hb] at hrem
            have hrem : ((m : Int) / 2 ^ t).tmod 2 = 0 := hrem
            obtain ⟨hgs1, hgs2, hgs3⟩ := hF.out.2.at' k hlt
            rw [← HMG.out.1, ← HMG.out.2] at hgs1
            rw [← HMG.out.2] at hgs2 hgs3
            have hLn : (GS.map natI).length = M.length := by rw [List.length_map, hF.out.2.len]
            have hLR := RowsD.rows (hLo.o.toD (by omega))
            obtain ⟨a5, c5, hv5, _, _⟩ := Sl.shape hLR
            rw [hLn] at hv5
            subst hv5
            have hLR2 : Rows2 (From w2.heap.size) wo (.slice a5 (GS.map natI).length c5) (GS.map natI) := by rw [hLn]; exact hLR
            obtain ⟨b5, o5, ar, cr, hb5, _, _, hcr, hrr⟩ := Rows2.at hLR2 k (by omega)
            subst hb5
            rw [gt_map _ _ _ (by rw [hF.out.2.len]; exact hlt), ← HMG.out.2] at hcr hrr
            have hgl := natI_len gk
            rw [hgl] at hcr
            have hrr2 : Ints (From w2.heap.size) wo (.slice ar gk.length cr) (natI gk) := by rw [← hgl]; exact hrr
            have hLA : SlOA OwnIn 22 w2.heap.size (fun j => (Value.slice (some ⟨b4, o4, none⟩) M.length c4).ownBlock = some j ∨ wo.heap.size ≤ j) wo (.slice (some ⟨b5, o5, none⟩) M.length c5) (GS.map natI) := hLo.more (fun j hj => hj)
            have happ := natI_app gk t
            have hgm2 : ∀ g ∈ gk ++ [t], g < (ordP P).toNat := fun g hg => by
              rcases List.mem_append.1 hg with h | h
              · exact hgs2 g h
              · rw [List.mem_singleton.1 h]; exact htlt
            have hgapp := hF.out.2.app hlt htlt
            rw [← HMG.out.2] at hgapp
            have hSk : Sub P (genN P gk) := G.genN_sub hgs2
            have HS := Lib.hid (And.intro hgs1 (And.intro hgm2 (And.intro happ (And.intro hgapp hSk)))); clear hgs1 hgs2 hgm2 happ hgapp hSk hrr hLR hLR2 hb hOi hLo
            go_wp2_with fail
            clear hrem hcm hcr
            refine Calls.mono (l01Own_ok wo _ (natI gk) _ hrr2 (by omega)) ?_
            rintro eP wP ⟨pv, rfl, hgP, hOP⟩
            clear hrr2
            go_wp2_with (first | (at_builtin; refine wp_app_int rfl _ _ rfl wo.heap.size _ (natI gk) (t : Int) rfl wP hOP rfl rfl (by omega) hgP.size ?_; intro v8 w8 hO8 hg8; have hgo8 : Ext wo w8 := grown_own hgP hg8 (fun b hb hlt => by have := (hOP.lt b hb).1; omega)) | fail)
            rw [← HS.out.2.2.1] at hO8
            have hI8 := hO8.ints (by rw [natI_len]; simp; omega)
            obtain ⟨a8, c8, hv8, _, _⟩ := hI8.shape
            subst hv8
            refine Calls.mono (l19Span_ok P G w8 _ _ (gk ++ [t]) Any _ h32 (Rows2.ext htN (grown_trans hgo2 hgo8)) hI8 HS.out.2.1 (by simp; omega)) ?_
            rintro eQ w9 ⟨qv, rfl, hg9, rfl⟩
            obtain ⟨m2, hm2⟩ : ∃ m2, m2 = msk P (genN P (gk ++ [t])) := ⟨_, rfl⟩
            rw [← hm2]
            have HM2 := Lib.hid hm2; clear hm2
            have hgo9 := grown_trans hgo8 hg9
            have hO89 := hO8.ext0 hg9
            clear hI8 hO8 hg8 hgP hOP
            generalize (natI (gk ++ [t])).length = ml at *
            go_wp2
            go_loopw [10, 11] (fun kv iv wr => ∃ (i : Nat) (kn : Bool), kv = .bool kn ∧ iv = .int .i64 i ∧ i ≤ M.length ∧ Ext w9 wr ∧ Hid (kn = true ↔ m2 ∈ M.take i)) (fun _ iv _ => M.length - (intOf iv).toNat)
            case atStart => exact ⟨0, false, rfl, rfl, by omega, Ext.refl _, Lib.hid (by simp)⟩
            case round =>
              obtain ⟨i, kn, rfl, rfl, hi, hk9, hKN⟩ := hrel
              have hgo9r := grown_trans hgo9 hk9
              have hOr := hOo.ext0 hgo9r
              by_cases hlti : i < M.length
              · have hlti' : (i : Int) < M.length := by omega
                have hmt : m2 ∈ M.take (i + 1) ↔ m2 ∈ M.take i ∨ gt M i = m2 := by
                  rw [take_succ_gt M i hlti, List.mem_append, List.mem_singleton]; exact or_congr Iff.rfl eq_comm
                have hOi := hOr.ints (by rw [natI_len]; omega)
                obtain ⟨b6, o6, hb6, _, _, hci⟩ := Ints.at (show Sl IntEl _ wr (.slice (some ⟨b4, o4, none⟩) M.length c4) (natI M) by rw [← natI_len] at hOi ⊢; exact hOi) i (by rw [natI_len]; exact hlti)
                cases hb6
                rw [natI_gt hlti] at hci
                clear hOi
                cases kn with
                | true =>
                  have HK := Lib.hid (show (true = true) ↔ m2 ∈ M.take (i + 1) from ⟨fun _ => hmt.2 (.inl (hKN.out.1 rfl)), fun _ => rfl⟩)
                  clear hmt hKN hci
                  go_wp2
                  go_roundw
                  case rel => exact ⟨i + 1, true, rfl, by go_num, by omega, hk9, HK⟩
                  case measure => simp [intOf]; omega
                | false =>
                  obtain ⟨mi, hmi⟩ : ∃ mi, mi = gt M i := ⟨_, rfl⟩
                  rw [← hmi] at hci hmt
                  by_cases he : mi = m2
                  · have HK := Lib.hid (show (true = true) ↔ m2 ∈ M.take (i + 1) from ⟨fun _ => hmt.2 (.inr he), fun _ => rfl⟩)
                    clear hmt hKN hmi
                    subst he
                    go_wp2
                    go_roundw
                    case rel => exact ⟨i + 1, true, by first | rfl | simp, by go_num, by omega, hk9, HK⟩
                    case measure => simp [intOf]; omega
                  · have HK := Lib.hid (show (false = true) ↔ m2 ∈ M.take (i + 1) from ⟨fun h => (by cases h), fun h => (hmt.1 h).elim (fun h2 => (by have := hKN.out.2 h2; cases this)) (fun h2 => absurd h2 he)⟩)
                    have hne : ((mi : Int) == (m2 : Int)) = false := by rw [natI_eqB]; simpa using he
                    clear hmt hKN hmi he
                    go_wp2
                    go_roundw
                    case rel => exact ⟨i + 1, false, by first | rfl | simp [hne], by go_num, by omega, hk9, HK⟩
                    case measure => simp [intOf]; omega
              · have hie : i = M.length := by omega
                have hkn := hKN.out
                rw [hie, List.take_length] at hkn
                have hni : ¬ (i : Int) < M.length := by omega
                have he2 : msk P (extP P (genN P gk) (elAt P (t : Int))) = m2 := by rw [HM2.out, genN_app]
                have hgqr := grown_trans hgo2 hgo9r
                cases kn with
                | true =>
                  have hF2 := Lib.hid (And.intro (G.fnd_known (x := t) hF.out.1 HS.out.2.2.2.2 (by rw [← HMG.out.1]; exact HS.out.1) (by rw [he2]; exact hkn.1 rfl)) hF.out.2)
                  have hLr := (hLA.less (A' := fun j => (Value.slice (some ⟨b4, o4, none⟩) M.length c4).ownBlock = some j) (fun j hj => .inl hj)).ext rdOwn hgo9r
                  clear hkn hKN hie he2 hF
                  go_wp2
                  go_roundw
                  case rel => exact ⟨M, GS, t + 1, _, _, rfl, rfl, by go_num, by omega, by omega, hlt, hgqr, hOr, hLr, hF2, HMG⟩
                  case measure => simp [intOf]; omega
                | false =>
                  have hn2 : ¬ m2 ∈ M := fun h => by have := hkn.2 h; cases this
                  have hF1 := G.fnd_new hF.out.1 hlt HS.out.2.2.2.2 (by rw [← HMG.out.1]; exact HS.out.1) htlt (by rw [he2]; exact hn2)
                  rw [he2] at hF1
                  have hG1 := HS.out.2.2.2.1
                  rw [← HM2.out] at hG1
                  have hmg2 : m = gt (M ++ [m2]) k ∧ gk = gt (GS ++ [gk ++ [t]]) k := ⟨by rw [gt_append_left _ _ _ hlt]; exact HMG.out.1, by rw [gt_append_left _ _ _ (by rw [hF.out.2.len]; exact hlt)]; exact HMG.out.2⟩
                  have hmap : (GS ++ [gk ++ [t]]).map natI = GS.map natI ++ [natI (gk ++ [t])] := by rw [List.map_append]; rfl
                  have hmapM := natI_app M m2
                  have hMl2 : (M ++ [m2]).length = M.length + 1 := by simp
                  have hGl : (GS.map natI).length ≤ 1000000 := by omega
                  have hnMl : (natI M).length ≤ 1000000 := by rw [natI_len]; omega
                  have HF2 := Lib.hid (And.intro hF1 (And.intro hG1 (And.intro hmg2 (And.intro hmap (And.intro hmapM (And.intro hMl2 (And.intro hGl hnMl)))))))
                  have hLr := hLA.ext rdOwn hgo9r
                  have hO8r := hO89.ext0 hk9
                  have h4o : ∀ j, (Value.slice (some ⟨b4, o4, none⟩) M.length c4).ownBlock = some j → j < wo.heap.size := fun j hj => (hOo.lt j hj).2
                  have h8o : ∀ j, (Value.slice a8 ml c8).ownBlock = some j → wo.heap.size ≤ j ∧ j < wr.heap.size := fun j hj => hO8r.lt j hj
                  have hsz9 := hgo9r.size
                  have hszo := hgo2.size
                  clear hkn hKN hie he2 hF hF1 hG1 hmg2 hmap hmapM hMl2 hGl hnMl hn2
                  have kA : ∀ wA, wr.grownBy wA (Value.slice (some ⟨b4, o4, none⟩) M.length c4).ownBlock → Ext w2 wA ∧
                      SlOA OwnIn 22 w2.heap.size (fun j => ((Value.slice (some ⟨b4, o4, none⟩) M.length c4).ownBlock = some j ∨ wo.heap.size ≤ j) ∧ j < wA.heap.size) wA (.slice (some ⟨b5, o5, none⟩) M.length c5) (GS.map natI) ∧
                      OwnIn (fun j => (Value.slice a8 ml c8).ownBlock = some j) wA (.slice a8 ml c8) (natI (gk ++ [t])) := by
                    intro wA hgA
                    refine ⟨grown_own hgqr hgA (fun b hb hlt => by have := (hOr.lt b hb).1; omega), ?_, ?_⟩
                    · refine SlOA.less (A := fun j => (Value.slice (some ⟨b4, o4, none⟩) M.length c4).ownBlock = some j ∨ wo.heap.size ≤ j) ?_ (fun j hj => hj.1)
                      cases hv : (Value.slice (some ⟨b4, o4, none⟩) M.length c4).ownBlock with
                      | none => rw [hv] at hgA hLr; exact hLr.ext rdOwn hgA
                      | some r => rw [hv] at hgA hLr; exact hLr.kept rdOwn hgA (.inl rfl)
                    · refine ⟨?_, fun j hj => hj, by rw [natI_len]; simp; omega⟩
                      have h1 := (hO8r.v.kept hgA (by
                        cases hv : (Value.slice a8 ml c8).ownBlock with
                        | none => exact .inl rfl
                        | some r => exact .inr (fun e => by have h2 := h8o r hv; have h3 := h4o r e.symm; omega)))
                      exact Own.weak (Own.of h1) (Nat.zero_le _)
                  have kB : ∀ (vA : Value) (wA : World), (∀ j, vA.ownBlock = some j → (Value.slice (some ⟨b4, o4, none⟩) M.length c4).ownBlock = some j ∨ wr.heap.size ≤ j) → Own w2.heap.size wA vA (natI M ++ [(m2 : Int)]) →
                      ∀ j, vA.ownBlock = some j → (((Value.slice (some ⟨b4, o4, none⟩) M.length c4).ownBlock = some j ∨ wo.heap.size ≤ j) ∧ j < wA.heap.size) ∧ ¬ (Value.slice a8 ml c8).ownBlock = some j := by
                    intro vA wA hbA hOA j hj
                    refine ⟨⟨(hbA j hj).imp id (fun h => by omega), (hOA.lt j hj).2⟩, fun h => ?_⟩
                    have h1 := h8o j h
                    rcases hbA j hj with h2 | h2
                    · have := h4o j h2; omega
                    · omega
                  go_wp2_with (first
                    | (revert hOA; intro hOA; at_builtin; refine wp_app_take rfl _ _ rfl w2.heap.size (fun j => ((Value.slice (some ⟨b4, o4, none⟩) M.length c4).ownBlock = some j ∨ wo.heap.size ≤ j) ∧ j < wA.heap.size) (fun j => vA.ownBlock = some j) (fun j => (Value.slice a8 ml c8).ownBlock = some j) wA _ _ (GS.map natI) (natI (gk ++ [t])) rfl hLA2 h8A (fun j hj hlt => ⟨⟨.inr (h8o j hj).1, hlt⟩, by have := (h8o j hj).1; omega⟩) (kB vA wA hbA hOA) (fun j hj => hj.2) rfl rfl HF2.out.2.2.2.2.2.2.1 hgA2.size ?_; intro vB wB hLB hgB hbB)
                    | (at_builtin; refine wp_app_intA rfl _ _ rfl w2.heap.size _ (natI M) (m2 : Int) rfl wr hOr rfl rfl HF2.out.2.2.2.2.2.2.2 hgqr.size ?_; intro vA wA hOA hgA hbA; obtain ⟨hgA2, hLA2, h8A⟩ := kA wA hgA)
                    | fail)
                  have hgB2 : Ext w2 wB := grown_own hgA2 hgB (fun b hb hlt => by have := (hLA2.avoids b hb).2.1; omega)
                  have hOB : Own w2.heap.size wB vA (natI M ++ [(m2 : Int)]) := Own.of (hOA.v.kept hgB (by
                    cases hv : vA.ownBlock with
                    | none => exact .inl rfl
                    | some r => exact .inr (fun e => (hLA2.avoids r e.symm).1 (kB vA wA hbA hOA r hv).1)))
                  rw [← HF2.out.2.2.2.2.1] at hOB
                  rw [← HF2.out.2.2.2.1] at hLB
                  go_roundw
                  case rel => exact ⟨M ++ [m2], GS ++ [gk ++ [t]], t + 1, vA, vB, rfl, rfl, by go_num, by omega, by omega, by rw [HF2.out.2.2.2.2.2.1]; omega, hgB2, hOB, hLB, Lib.hid ⟨HF2.out.1, HF2.out.2.1⟩, Lib.hid HF2.out.2.2.1⟩
                  case measure => simp [intOf]; omega
        · have hte : t = N := by omega
          have hF2 := Lib.hid (And.intro (hF.out.1.next (by have := HB.out.2.2.2.1; omega)) hF.out.2)
          clear hF
          have hnt : ¬ (t : Int) < N := by omega
          go_wp2
          go_roundw
          case rel => exact ⟨M, GS, k + 1, _, v5, rfl, rfl, by go_num, by omega, hgo2, hOo, hLo, hF2⟩
          case measure => simp [intOf]; omega
    · have hie : k = M.length := by omega
      have hend : ∀ H, Sub P H → msk P H ∈ M := fun H S => by
        have h1 := hF.out.1
        exact G.fnd_end h1 (by omega) S
      have hfs := hF.out.1.sub
      have hmem : ∀ u, SubB P u ↔ ∃ j, j < M.length ∧ u = cseq P (ofMask P (gt M j)) := fun u => by
        constructor
        · intro hu
          obtain ⟨j, hj, he⟩ := mem_gt (hend _ (G.subB hu))
          exact ⟨j, hj, by rw [he, G.ofMask_msk (G.subB hu)]; exact hu.2⟩
        · rintro ⟨j, hj, rfl⟩
          obtain ⟨H, S, e⟩ := hfs _ (gt_mem hj)
          rw [e, G.ofMask_msk S]; exact G.subB_cseq S
      have HM := Lib.hid (And.intro hmem hfs); clear hmem hfs hend hF
      have hsX : ∀ k, (wr.alloc (.cells #[.slice none 0 0, .slice none 0 0] 77)).frozen? ⟨wr.heap.size, k, none⟩ = false := fun k => by simp
      have hcX : ∀ k, k < 2 → (wr.alloc (.cells #[.slice none 0 0, .slice none 0 0] 77)).cell? ⟨wr.heap.size, k, none⟩ = some (.slice none 0 0) := fun k hk => by
        rw [World.cell?_alloc_at _ _ _ _ rfl]
        rcases (show k = 0 ∨ k = 1 by omega) with rfl | rfl <;> rfl
      have hgX : Ext wr (wr.alloc (.cells #[.slice none 0 0, .slice none 0 0] 77)) := World.grownBy_alloc _ _ _
      have hzX : wr.heap.size < (wr.alloc (.cells #[.slice none 0 0, .slice none 0 0] 77)).heap.size := by simp
      have HX0 := Lib.hid (And.intro hsX (And.intro hcX (And.intro hgX hzX))); clear hsX hcX hgX hzX hL
      have hnk : ¬ (k : Int) < M.length := by omega
      clear hOi
      go_wp2
      clear hnk hie hlt hk
      obtain ⟨wF, rfl⟩ : ∃ wF : World, wF = wr := ⟨_, rfl⟩
      obtain ⟨ob, hob0⟩ : ∃ ob, ob = wF.heap.size := ⟨_, rfl⟩
      have HX1 := HX0.out
      rw [← hob0] at HX1 ⊢
      have hobF : wF.heap.size ≤ ob := by omega
      have hg2F := hg
      clear hg
      have HX2 := Lib.hid HX1; clear HX1 HX0 hob0
      go_loopw [13] (fun iv wr => ∃ (i : Nat) (sv : Value) (L : List (List (List Int))), iv = .int .i64 i ∧ i ≤ M.length ∧ Ext wF wr ∧ wr.cell? ⟨ob, 0, none⟩ = some sv ∧ wr.cell? ⟨ob, 1, none⟩ = some (.slice none 0 0) ∧ (∀ k, wr.frozen? ⟨ob, k, none⟩ = false) ∧ ob < wr.heap.size ∧
        Rows3 (fun k => k ≠ ob ∧ wF.heap.size ≤ k) wr sv L ∧ Hid (L.Pairwise (subLt P) ∧ (∀ u, u ∈ L ↔ ∃ j, j < i ∧ u = cseq P (ofMask P (gt M j))) ∧ L.length ≤ i)) (fun iv _ => M.length - (intOf iv).toNat)
      case atStart => exact ⟨0, _, [], rfl, by omega, HX2.out.2.2.1, HX2.out.2.1 0 (by omega), HX2.out.2.1 1 (by omega), HX2.out.1, HX2.out.2.2.2, ⟨none, 0, rfl, ⟨by simp, by simp, fun _ => rfl⟩, fun i hi => by simp at hi⟩, Lib.hid ⟨List.Pairwise.nil, fun u => by simp, by simp⟩⟩
      case round =>
        obtain ⟨i, sv, L, rfl, hi, hg, ho0, ho1, hof, hob, hL, hI⟩ := hrel
        have hg0r := grown_trans (grown_trans hg2 hg2F) hg
        by_cases hlt : i < M.length
        · have hlt' : (i : Int) < M.length := by omega
          have h3r := Pres3.ext h37 hg0r
          have hOi := hO.ints (by rw [natI_len]; omega)
          obtain ⟨b4, o4, hb4, _, hb4l, hcm0⟩ := Ints.at (show Sl IntEl _ wF (.slice a4 M.length c4) (natI M) by rw [← natI_len] at hOi ⊢; exact hOi) i (by rw [natI_len]; exact hlt)
          rw [natI_gt hlt] at hcm0
          have hcm := hg.cell hcm0 (by simp)
          subst hb4
          obtain ⟨H, SH, hmH⟩ := HM.out.2 _ (gt_mem hlt)
          have hseq := l19Sequence_ok P G wr.drew (.agg #[vo6, vp6, vc6]) H Any SH h32 ⟨_, _, _, rfl, Pres3.ext h3r (grown_drew _ _)⟩
          rw [← hmH] at hseq
          have hcs : cseq P H = cseq P (ofMask P (gt M i)) := by rw [hmH, G.ofMask_msk SH]
          have hLS : ∀ v ∈ L, SubB P v := fun v hv => by
            obtain ⟨j, h1, h2⟩ := (hI.out.2.1 v).1 hv
            exact (HM.out.1 v).2 ⟨j, by omega, h2⟩
          have hlL : L.length ≤ i := hI.out.2.2
          have HX := Lib.hid (And.intro hlL (And.intro hcs (And.intro hLS (And.intro (G.subB_cseq SH) (And.intro hI.out.1 hI.out.2.1)))))
          obtain ⟨mi, hmi⟩ : ∃ mi, mi = gt M i := ⟨_, rfl⟩
          rw [← hmi] at hcm hseq
          obtain ⟨sa, sc, hsv, _, _⟩ := Sl.shape hL
          subst hsv
          obtain ⟨hc0, hc1, hc2⟩ := HB.out.1 wr hg0r
          have hsw0 := hg2F.size
          have hsw2 := hg2.size
          have hsw := HB.out.2.1
          have e1 : ∀ w', wr.grownBy w' (some ob) → w'.cell? ⟨w.heap.size, 0, none⟩ = some vo6 := fun w' h => h.cell hc0 (by simp; omega)
          have e2 : ∀ w', wr.grownBy w' (some ob) → w'.cell? ⟨w.heap.size, 1, none⟩ = some vp6 := fun w' h => h.cell hc1 (by simp; omega)
          have e3 : ∀ w', wr.grownBy w' (some ob) → w'.cell? ⟨w.heap.size, 2, none⟩ = some vc6 := fun w' h => h.cell hc2 (by simp; omega)
          have e4 : ∀ w', wr.grownBy w' (some ob) → w'.cell? ⟨b4, o4 + i, none⟩ = some (.int .i64 (mi : Int)) := fun w' h => h.cell hcm (by simp; omega)
          clear hc0 hc1 hc2 hcm hcm0 hI hcs hLS hmi hOi hmH SH hsw hsw0 hsw2
          go_wp2
          refine wp_region_held_drew (S := fun w' => wr.grownBy w' (some ob)) (by kernel_rfl) (grown_drew _ _) (fun hHeld => ?_)
          refine wpAnyH_take (i := 0) (v := ?va0_1) rfl (by kernel_rfl) (by kernel_rfl) (by kernel_rfl) (fun _ _ _ h => h) (Or.inl ⟨by rfl, ?hya0_1⟩) (by assumption) ?resta0_1
          case hya0_1 => (intro w hSw; (try dsimp only at hSw); go_simp; try with_reducible rfl)
          try simp only [Act.put, List.getElem_toArray, List.getElem_cons_succ, List.getElem_cons_zero, List.setIfInBounds_toArray, List.set_cons_zero, List.set_cons_succ]
          refine wpAnyH_take (i := 1) (v := ?va1_2) rfl (by kernel_rfl) (by kernel_rfl) (by kernel_rfl) (fun _ _ _ h => h) (Or.inl ⟨by rfl, ?hya1_2⟩) (by assumption) ?resta1_2
          case hya1_2 => (intro w hSw; (try dsimp only at hSw); go_simp; try with_reducible rfl)
          try simp only [Act.put, List.getElem_toArray, List.getElem_cons_succ, List.getElem_cons_zero, List.setIfInBounds_toArray, List.set_cons_zero, List.set_cons_succ]
          refine wpAnyH_take (i := 3) (v := ?va3_3) rfl (by kernel_rfl) (by kernel_rfl) (by kernel_rfl) (fun _ _ _ h => h) (Or.inl ⟨by rfl, ?hya3_3⟩) (by assumption) ?resta3_3
          case hya3_3 => (intro w hSw; (try dsimp only at hSw); go_simp; try with_reducible rfl)
          try simp only [Act.put, List.getElem_toArray, List.getElem_cons_succ, List.getElem_cons_zero, List.setIfInBounds_toArray, List.set_cons_zero, List.set_cons_succ]
          refine wpAnyH_take (i := 4) (v := ?va4_4) rfl (by kernel_rfl) (by kernel_rfl) (by kernel_rfl) (fun _ _ _ h => h) (Or.inl ⟨by rfl, ?hya4_4⟩) (by assumption) ?resta4_4
          case hya4_4 => (intro w hSw; (try dsimp only at hSw); go_simp; try with_reducible rfl)
          try simp only [Act.put, List.getElem_toArray, List.getElem_cons_succ, List.getElem_cons_zero, List.setIfInBounds_toArray, List.set_cons_zero, List.set_cons_succ]
          refine wpAnyH_take (i := 5) (v := ?va5_5) rfl (by kernel_rfl) (by kernel_rfl) (by kernel_rfl) (fun _ _ _ h => h) (Or.inl ⟨by rfl, ?hya5_5⟩) (by assumption) ?resta5_5
          case hya5_5 => (intro w hSw; (try dsimp only at hSw); go_simp; try with_reducible rfl)
          try simp only [Act.put, List.getElem_toArray, List.getElem_cons_succ, List.getElem_cons_zero, List.setIfInBounds_toArray, List.set_cons_zero, List.set_cons_succ]
          refine wpAnyH_take (i := 6) (v := ?va6_6) rfl (by kernel_rfl) (by kernel_rfl) (by kernel_rfl) (fun _ _ _ h => h) (Or.inl ⟨by rfl, ?hya6_6⟩) (by assumption) ?resta6_6
          case hya6_6 => (intro w hSw; (try dsimp only at hSw); go_simp; try with_reducible rfl)
          try simp only [Act.put, List.getElem_toArray, List.getElem_cons_succ, List.getElem_cons_zero, List.setIfInBounds_toArray, List.set_cons_zero, List.set_cons_succ]
          refine wpAnyH_take (i := 7) (v := ?va7_7) rfl (by kernel_rfl) (by kernel_rfl) (by kernel_rfl) (fun _ _ _ h => h) (Or.inl ⟨by rfl, ?hya7_7⟩) (by assumption) ?resta7_7
          case hya7_7 => (intro w hSw; (try dsimp only at hSw); go_simp; try with_reducible rfl)
          try simp only [Act.put, List.getElem_toArray, List.getElem_cons_succ, List.getElem_cons_zero, List.setIfInBounds_toArray, List.set_cons_zero, List.set_cons_succ]
          refine wpAnyH_ready (rs := [2, 8]) (by kernel_rfl) (by simp) ?_
          refine AllReadyH.cons rfl (fun Kc hKc => ?_) (AllReadyH.cons rfl (fun Kc hKc => ?_) AllReadyH.nil)
          · go_simp
            refine hKc.out _ _ ?_ (fun hHeld => ?_)
            · assumption
            clear hKc Kc
            try simp only [Act.put, List.getElem_toArray, List.getElem_cons_succ, List.getElem_cons_zero, List.setIfInBounds_toArray, List.set_cons_zero, List.set_cons_succ]
            refine wpAnyH_ready (rs := [8]) (by kernel_rfl) (by simp) ?_
            refine AllReadyH.cons rfl (fun Kc hKc => ?_) AllReadyH.nil
            go_simp
            go_at_call 132
            refine Calls.mono hseq ?_
            rintro eA wA ⟨uv, rfl, hgA, hUA⟩
            have hgA0 : Ext wr wA := grown_trans (grown_drew _ _) hgA
            have hgA2 : wr.grownBy wA (some ob) := grown_of_ext _ hgA0
            have hcA := hgA0.cell ho0 (by simp)
            obtain ⟨ua, uc, hvu, _, _⟩ := Sl.shape hUA
            subst hvu
            go_wp2_with fail
            refine hKc.out _ _ ?_ (fun hHeld => ?_)
            · exact hgA2
            clear hKc Kc
            try simp only [Act.put, List.getElem_toArray, List.getElem_cons_succ, List.getElem_cons_zero, List.setIfInBounds_toArray, List.set_cons_zero, List.set_cons_succ]
            refine wpAnyH_ready (rs := [9]) (by kernel_rfl) (by simp) ?_
            refine AllReadyH.cons rfl (fun Kc hKc => ?_) AllReadyH.nil
            go_simp
            go_at_call 131
            refine Calls.mono (l19Insert_ok P G wA _ _ _ L (cseq P H) Any (fun k => k ≠ ob ∧ wF.heap.size ≤ k) ⟨_, _, _, rfl, Pres3.ext h3r hgA0⟩ (Rows3.ext hL hgA0) (Rows2.sub hUA (fun k hk _ => by have h1 : wr.drew.heap.size ≤ k := hk; have h2 := (grown_drew wr none).size; exact ⟨by omega, by omega⟩)) HX.out.2.2.1 HX.out.2.2.2.1 HX.out.2.2.2.2.1 (by omega)) ?_
            rintro eB wB ⟨rv, rfl, hgB, R, hR1, hR2, hR3, hRB⟩
            obtain ⟨ra, rc, hvr, _, _⟩ := Sl.shape hRB
            subst hvr
            have hgB0 := grown_trans hgA0 hgB
            have hgB2 : wr.grownBy wB (some ob) := grown_of_ext _ hgB0
            have hcB := hgB0.cell ho0 (by simp)
            have hcB1 := hgB0.cell ho1 (by simp)
            have hfB : ∀ k, wB.frozen? ⟨ob, k, none⟩ = false := fun k => (World.frozen?_of_block (w := wr) (hgB0.block ob hob (by simp))).trans (hof k)
            have hgp := grown_put wB ⟨ob, 0, none⟩ (.slice ra R.length rc)
            have hgw9 := grown_trans hgB2 hgp
            have HR := Lib.hid (And.intro hR1 (And.intro hR2 (And.intro hR3 hRB))); clear hR1 hR2 hR3 hRB hUA
            go_wp2_with fail
            refine hKc.out _ _ ?_ (fun hHeld => ?_)
            · exact hgB2
            clear hKc Kc
            try simp only [Act.put, List.getElem_toArray, List.getElem_cons_succ, List.getElem_cons_zero, List.setIfInBounds_toArray, List.set_cons_zero, List.set_cons_succ]
            refine wpAnyH_take (i := 10) (v := ?va10_8) rfl (by kernel_rfl) (by kernel_rfl) (by kernel_rfl) (fun _ _ _ h => h) (Or.inl ⟨by rfl, ?hya10_8⟩) (by assumption) ?resta10_8
            case hya10_8 => (intro w hSw; (try dsimp only at hSw); go_simp; try with_reducible rfl)
            try simp only [Act.put, List.getElem_toArray, List.getElem_cons_succ, List.getElem_cons_zero, List.setIfInBounds_toArray, List.set_cons_zero, List.set_cons_succ]
            refine wpAnyH_ready (rs := [11]) (by kernel_rfl) (by simp) ?_
            refine AllReadyH.cons rfl (fun Kc hKc => ?_) AllReadyH.nil
            go_simp
            refine hKc.out _ _ ?_ (fun hHeld => ?_)
            · exact hgw9
            clear hKc Kc
            try simp only [Act.put, List.getElem_toArray, List.getElem_cons_succ, List.getElem_cons_zero, List.setIfInBounds_toArray, List.set_cons_zero, List.set_cons_succ]
            refine wpAnyH_done (by kernel_rfl) ?_ _
            have hn0 : (wB.setCell ⟨ob, 0, none⟩ (.slice ra R.length rc)).cell? ⟨ob, 0, none⟩ = some (.slice ra R.length rc) := World.cell?_setCell_same _ _ _ hcB
            have hn1 : (wB.setCell ⟨ob, 0, none⟩ (.slice ra R.length rc)).cell? ⟨ob, 1, none⟩ = some (.slice none 0 0) := (World.cell?_setCell_other _ _ _ _ (by simp)).trans hcB1
            have hnf : ∀ k, (wB.setCell ⟨ob, 0, none⟩ (.slice ra R.length rc)).frozen? ⟨ob, k, none⟩ = false := fun k => by rw [World.frozen?_setCell]; exact hfB k
            have hns : ob < (wB.setCell ⟨ob, 0, none⟩ (.slice ra R.length rc)).heap.size := by have := hgp.size; have := hgB0.size; omega
            have hnF : Ext wF (wB.setCell ⟨ob, 0, none⟩ (.slice ra R.length rc)) := grown_own (grown_trans hg hgB0) hgp (fun b hb hlt => by have : ob = b := (by simpa using hb); omega)
            have hnR : Rows3 (fun k => k ≠ ob ∧ wF.heap.size ≤ k) (wB.setCell ⟨ob, 0, none⟩ (.slice ra R.length rc)) (.slice ra R.length rc) R := Rows3.mono HR.out.2.2.2 (frame_of hgp (fun k hk hlt => by have h1 : k ≠ ob ∧ wF.heap.size ≤ k := (by have h2 := hgA0.size; rcases hk with hk | hk; exact hk; exact ⟨by omega, by omega⟩); exact ⟨h1, fun e => h1.1 (by simpa using e.symm)⟩))
            have hInv : Hid (R.Pairwise (subLt P) ∧ (∀ u, u ∈ R ↔ ∃ j, j < i + 1 ∧ u = cseq P (ofMask P (gt M j))) ∧ R.length ≤ i + 1) := Lib.hid ⟨HR.out.1, fun u => by
              rw [HR.out.2.1 u, HX.out.2.2.2.2.2 u]
              constructor
              · rintro (⟨j, h1, h2⟩ | h1)
                · exact ⟨j, by omega, h2⟩
                · exact ⟨i, by omega, by rw [← HX.out.2.1]; exact h1⟩
              · rintro ⟨j, h1, h2⟩
                rcases Nat.lt_succ_iff_lt_or_eq.1 h1 with h3 | h3
                · exact .inl ⟨j, h3, h2⟩
                · subst h3; exact .inr (by rw [h2, ← HX.out.2.1]), by have := HR.out.2.2.1; omega⟩
            clear hcA hcB hcB1 ho0 ho1 hof hfB
            go_wp2
            go_roundw
            case rel => exact ⟨i + 1, _, R, by go_num, by omega, hnF, hn0, hn1, hnf, hns, hnR, hInv⟩
            case measure => simp [intOf]; omega
          · go_simp
            go_at_call 132
            refine Calls.mono hseq ?_
            rintro eA wA ⟨uv, rfl, hgA, hUA⟩
            have hgA0 : Ext wr wA := grown_trans (grown_drew _ _) hgA
            have hgA2 : wr.grownBy wA (some ob) := grown_of_ext _ hgA0
            have hcA := hgA0.cell ho0 (by simp)
            obtain ⟨ua, uc, hvu, _, _⟩ := Sl.shape hUA
            subst hvu
            go_wp2_with fail
            refine hKc.out _ _ ?_ (fun hHeld => ?_)
            · exact hgA2
            clear hKc Kc
            try simp only [Act.put, List.getElem_toArray, List.getElem_cons_succ, List.getElem_cons_zero, List.setIfInBounds_toArray, List.set_cons_zero, List.set_cons_succ]
            refine wpAnyH_ready (rs := [2]) (by kernel_rfl) (by simp) ?_
            refine AllReadyH.cons rfl (fun Kc hKc => ?_) AllReadyH.nil
            go_simp
            refine hKc.out _ _ ?_ (fun hHeld => ?_)
            · assumption
            clear hKc Kc
            try simp only [Act.put, List.getElem_toArray, List.getElem_cons_succ, List.getElem_cons_zero, List.setIfInBounds_toArray, List.set_cons_zero, List.set_cons_succ]
            refine wpAnyH_ready (rs := [9]) (by kernel_rfl) (by simp) ?_
            refine AllReadyH.cons rfl (fun Kc hKc => ?_) AllReadyH.nil
            go_simp
            go_at_call 131
            refine Calls.mono (l19Insert_ok P G wA _ _ _ L (cseq P H) Any (fun k => k ≠ ob ∧ wF.heap.size ≤ k) ⟨_, _, _, rfl, Pres3.ext h3r hgA0⟩ (Rows3.ext hL hgA0) (Rows2.sub hUA (fun k hk _ => by have h1 : wr.drew.heap.size ≤ k := hk; have h2 := (grown_drew wr none).size; exact ⟨by omega, by omega⟩)) HX.out.2.2.1 HX.out.2.2.2.1 HX.out.2.2.2.2.1 (by omega)) ?_
            rintro eB wB ⟨rv, rfl, hgB, R, hR1, hR2, hR3, hRB⟩
            obtain ⟨ra, rc, hvr, _, _⟩ := Sl.shape hRB
            subst hvr
            have hgB0 := grown_trans hgA0 hgB
            have hgB2 : wr.grownBy wB (some ob) := grown_of_ext _ hgB0
            have hcB := hgB0.cell ho0 (by simp)
            have hcB1 := hgB0.cell ho1 (by simp)
            have hfB : ∀ k, wB.frozen? ⟨ob, k, none⟩ = false := fun k => (World.frozen?_of_block (w := wr) (hgB0.block ob hob (by simp))).trans (hof k)
            have hgp := grown_put wB ⟨ob, 0, none⟩ (.slice ra R.length rc)
            have hgw9 := grown_trans hgB2 hgp
            have HR := Lib.hid (And.intro hR1 (And.intro hR2 (And.intro hR3 hRB))); clear hR1 hR2 hR3 hRB hUA
            go_wp2_with fail
            refine hKc.out _ _ ?_ (fun hHeld => ?_)
            · exact hgB2
            clear hKc Kc
            try simp only [Act.put, List.getElem_toArray, List.getElem_cons_succ, List.getElem_cons_zero, List.setIfInBounds_toArray, List.set_cons_zero, List.set_cons_succ]
            refine wpAnyH_take (i := 10) (v := ?va10_9) rfl (by kernel_rfl) (by kernel_rfl) (by kernel_rfl) (fun _ _ _ h => h) (Or.inl ⟨by rfl, ?hya10_9⟩) (by assumption) ?resta10_9
            case hya10_9 => (intro w hSw; (try dsimp only at hSw); go_simp; try with_reducible rfl)
            try simp only [Act.put, List.getElem_toArray, List.getElem_cons_succ, List.getElem_cons_zero, List.setIfInBounds_toArray, List.set_cons_zero, List.set_cons_succ]
            refine wpAnyH_ready (rs := [11]) (by kernel_rfl) (by simp) ?_
            refine AllReadyH.cons rfl (fun Kc hKc => ?_) AllReadyH.nil
            go_simp
            refine hKc.out _ _ ?_ (fun hHeld => ?_)
            · exact hgw9
            clear hKc Kc
            try simp only [Act.put, List.getElem_toArray, List.getElem_cons_succ, List.getElem_cons_zero, List.setIfInBounds_toArray, List.set_cons_zero, List.set_cons_succ]
            refine wpAnyH_done (by kernel_rfl) ?_ _
            have hn0 : (wB.setCell ⟨ob, 0, none⟩ (.slice ra R.length rc)).cell? ⟨ob, 0, none⟩ = some (.slice ra R.length rc) := World.cell?_setCell_same _ _ _ hcB
            have hn1 : (wB.setCell ⟨ob, 0, none⟩ (.slice ra R.length rc)).cell? ⟨ob, 1, none⟩ = some (.slice none 0 0) := (World.cell?_setCell_other _ _ _ _ (by simp)).trans hcB1
            have hnf : ∀ k, (wB.setCell ⟨ob, 0, none⟩ (.slice ra R.length rc)).frozen? ⟨ob, k, none⟩ = false := fun k => by rw [World.frozen?_setCell]; exact hfB k
            have hns : ob < (wB.setCell ⟨ob, 0, none⟩ (.slice ra R.length rc)).heap.size := by have := hgp.size; have := hgB0.size; omega
            have hnF : Ext wF (wB.setCell ⟨ob, 0, none⟩ (.slice ra R.length rc)) := grown_own (grown_trans hg hgB0) hgp (fun b hb hlt => by have : ob = b := (by simpa using hb); omega)
            have hnR : Rows3 (fun k => k ≠ ob ∧ wF.heap.size ≤ k) (wB.setCell ⟨ob, 0, none⟩ (.slice ra R.length rc)) (.slice ra R.length rc) R := Rows3.mono HR.out.2.2.2 (frame_of hgp (fun k hk hlt => by have h1 : k ≠ ob ∧ wF.heap.size ≤ k := (by have h2 := hgA0.size; rcases hk with hk | hk; exact hk; exact ⟨by omega, by omega⟩); exact ⟨h1, fun e => h1.1 (by simpa using e.symm)⟩))
            have hInv : Hid (R.Pairwise (subLt P) ∧ (∀ u, u ∈ R ↔ ∃ j, j < i + 1 ∧ u = cseq P (ofMask P (gt M j))) ∧ R.length ≤ i + 1) := Lib.hid ⟨HR.out.1, fun u => by
              rw [HR.out.2.1 u, HX.out.2.2.2.2.2 u]
              constructor
              · rintro (⟨j, h1, h2⟩ | h1)
                · exact ⟨j, by omega, h2⟩
                · exact ⟨i, by omega, by rw [← HX.out.2.1]; exact h1⟩
              · rintro ⟨j, h1, h2⟩
                rcases Nat.lt_succ_iff_lt_or_eq.1 h1 with h3 | h3
                · exact .inl ⟨j, h3, h2⟩
                · subst h3; exact .inr (by rw [h2, ← HX.out.2.1]), by have := HR.out.2.2.1; omega⟩
            clear hcA hcB hcB1 ho0 ho1 hof hfB
            go_wp2
            go_roundw
            case rel => exact ⟨i + 1, _, R, by go_num, by omega, hnF, hn0, hn1, hnf, hns, hnR, hInv⟩
            case measure => simp [intOf]; omega
        · have hie : i = M.length := by omega
          have hlat : LatL P L := ⟨hI.out.1, fun u => by rw [hI.out.2.1 u, hie]; exact (HM.out.1 u).symm⟩
          have hLl : L.length ≤ 100000 := by have := hI.out.2.2; omega
          obtain ⟨sa, sc, hsv, _, _⟩ := Sl.shape hL
          subst hsv
          have hLne : 0 < L.length := (G.lat_top hlat).1
          obtain ⟨bL, oL, _, _, hbL, hbn, _, _, _⟩ := Rows3.at hL 0 hLne
          have HL := Lib.hid hlat; clear hlat hI hLne
          subst hbL
          have hbn : bL ≠ ob := hbn.1
          have hni : ¬ (i : Int) < M.length := by omega
          go_wp2
          clear hni hie hlt hi
          obtain ⟨wZ, rfl⟩ : ∃ wZ : World, wZ = wr := ⟨_, rfl⟩
          have hgZ := grown_trans hg2F hg
          have hg0Z := grown_trans hg2 hgZ
          clear hg
          go_loopw [14] (fun kv wr => ∃ (k : Nat) (mv : Value), kv = .int .i64 k ∧ k ≤ L.length ∧ wZ.grownBy wr (some ob) ∧ wr.cell? ⟨ob, 0, none⟩ = some (.slice (some ⟨bL, oL, none⟩) L.length sc) ∧ wr.cell? ⟨ob, 1, none⟩ = some mv ∧ (∀ k, wr.frozen? ⟨ob, k, none⟩ = false) ∧ ob < wr.heap.size ∧
            Own wZ.heap.size wr mv (natI ((L.take k).map (mskU P)))) (fun kv _ => L.length - (intOf kv).toNat)
          case atStart => exact ⟨0, _, rfl, by omega, grown_refl _ _, ho0, ho1, hof, hob, World.ownsRow_nil _ _ _ _⟩
          case round =>
            have hobZ := hob
            clear ho0 ho1 hof hob
            obtain ⟨k, mv, rfl, hk, hg, ho0, ho1, hof, hob, hO⟩ := hrel
            by_cases hlt : k < L.length
            · have hlt' : (k : Int) < L.length := by omega
              obtain ⟨b7, o7, a7, c7, hb7, hbs, hbl, hcl, hru⟩ := Rows3.at hL k hlt
              cases hb7
              have hub := (HL.out.2 _).1 (gt_mem hlt)
              obtain ⟨u, hu⟩ : ∃ u, u = gt L k := ⟨_, rfl⟩
              rw [← hu] at hcl hru hub
              have hruD : Rows2 Any wr.drew (.slice a7 u.length c7) (cseq P (genP P (fun x => x ∈ u))) := by
                rw [← hub.2]
                exact Rows2.mono hru (frame_of (grown_trans hg (grown_drew wr (some ob))) (fun j hj _ => ⟨trivial, fun e => hj.1 (by simpa using e.symm)⟩))
              have hsw0 := hgZ.size
              have hsw2 := hg2.size
              have hswF := hg2F.size
              have h3D : Pres3 Any wr.drew vo6 vp6 vc6 P := Pres3.mono h37 (fun j _ hlt => ⟨trivial, Nat.lt_of_lt_of_le hlt (Nat.le_trans hg0Z.size (grown_trans hg (grown_drew wr (some ob))).size), ((grown_trans hg (grown_drew wr (some ob))).block j (Nat.lt_of_lt_of_le hlt hg0Z.size) (fun e => by have : ob = j := (by first | simpa using e | simpa using e.symm); omega)).trans (hg0Z.block j hlt (by simp))⟩)
              have hbits := l19Bits_ok P G wr.drew (.agg #[vo6, vp6, vc6]) (.slice a7 u.length c7) _ Any Any (G.subB hub) h32 ⟨_, _, _, rfl, h3D⟩ hruD
              obtain ⟨q, hq⟩ : ∃ q, q = msk P (genP P (fun x => x ∈ u)) := ⟨_, rfl⟩
              rw [← hq] at hbits
              have happ : natI ((L.take (k + 1)).map (mskU P)) = natI ((L.take k).map (mskU P)) ++ [(q : Int)] := by
                rw [take_succ_gt L k hlt, List.map_append, List.map_singleton, natI_app, hq, hu]; rfl
              have hml : (natI ((L.take k).map (mskU P))).length ≤ 1000000 := by rw [natI_len, List.length_map, List.length_take]; omega
              have HU := Lib.hid (And.intro happ hml); clear happ hml hq hub hruD h3D hu hru
              obtain ⟨mva, mvn, mvc, hmv⟩ : ∃ a n c, mv = .slice a n c := by
                rcases hO.2 with ⟨h1, _⟩ | ⟨g, cp, _, h1, _⟩ <;> exact ⟨_, _, _, h1⟩
              subst hmv
              obtain ⟨hc0, hc1, hc2⟩ := HB.out.1 wZ hg0Z
              have hsw := HB.out.2.1
              have hszZ := hg.size
              have e1 : ∀ w', wZ.grownBy w' (some ob) → w'.cell? ⟨w.heap.size, 0, none⟩ = some vo6 := fun w' h => h.cell hc0 (by simp; omega)
              have e2 : ∀ w', wZ.grownBy w' (some ob) → w'.cell? ⟨w.heap.size, 1, none⟩ = some vp6 := fun w' h => h.cell hc1 (by simp; omega)
              have e3 : ∀ w', wZ.grownBy w' (some ob) → w'.cell? ⟨w.heap.size, 2, none⟩ = some vc6 := fun w' h => h.cell hc2 (by simp; omega)
              have e4 : ∀ w', wZ.grownBy w' (some ob) → w'.cell? ⟨bL, oL + k, none⟩ = some (.slice a7 u.length c7) := fun w' h => h.cell hcl (by simp; omega)
              clear hc0 hc1 hc2 hcl hsw hsw0 hsw2 hswF
              go_wp2
              refine wp_region_held_drew (S := fun w' => wZ.grownBy w' (some ob) ∧ w'.cell? ⟨ob, 0, none⟩ = some (.slice (some ⟨bL, oL, none⟩) L.length sc)) (by kernel_rfl) ⟨grown_trans hg (grown_drew _ _), ho0⟩ (fun hHeld => ?_)
              refine wpAnyH_take (i := 0) (v := ?vb0_1) rfl (by kernel_rfl) (by kernel_rfl) (by kernel_rfl) (fun _ _ _ h => h) (Or.inl ⟨by rfl, ?hyb0_1⟩) (by assumption) ?restb0_1
              case hyb0_1 => (intro w hSw; (try dsimp only at hSw); obtain ⟨hSw, hSc⟩ := hSw; go_simp; try with_reducible rfl)
              try simp only [Act.put, List.getElem_toArray, List.getElem_cons_succ, List.getElem_cons_zero, List.setIfInBounds_toArray, List.set_cons_zero, List.set_cons_succ]
              refine wpAnyH_take (i := 2) (v := ?vb2_2) rfl (by kernel_rfl) (by kernel_rfl) (by kernel_rfl) (fun _ _ _ h => h) (Or.inl ⟨by rfl, ?hyb2_2⟩) (by assumption) ?restb2_2
              case hyb2_2 => (intro w hSw; (try dsimp only at hSw); obtain ⟨hSw, hSc⟩ := hSw; go_simp; try with_reducible rfl)
              try simp only [Act.put, List.getElem_toArray, List.getElem_cons_succ, List.getElem_cons_zero, List.setIfInBounds_toArray, List.set_cons_zero, List.set_cons_succ]
              refine wpAnyH_take (i := 3) (v := ?vb3_3) rfl (by kernel_rfl) (by kernel_rfl) (by kernel_rfl) (fun _ _ _ h => h) (Or.inl ⟨by rfl, ?hyb3_3⟩) (by assumption) ?restb3_3
              case hyb3_3 => (intro w hSw; (try dsimp only at hSw); obtain ⟨hSw, hSc⟩ := hSw; go_simp; try with_reducible rfl)
              try simp only [Act.put, List.getElem_toArray, List.getElem_cons_succ, List.getElem_cons_zero, List.setIfInBounds_toArray, List.set_cons_zero, List.set_cons_succ]
              refine wpAnyH_take (i := 4) (v := ?vb4_4) rfl (by kernel_rfl) (by kernel_rfl) (by kernel_rfl) (fun _ _ _ h => h) (Or.inl ⟨by rfl, ?hyb4_4⟩) (by assumption) ?restb4_4
              case hyb4_4 => (intro w hSw; (try dsimp only at hSw); obtain ⟨hSw, hSc⟩ := hSw; go_simp; try with_reducible rfl)
              try simp only [Act.put, List.getElem_toArray, List.getElem_cons_succ, List.getElem_cons_zero, List.setIfInBounds_toArray, List.set_cons_zero, List.set_cons_succ]
              refine wpAnyH_take (i := 5) (v := ?vb5_5) rfl (by kernel_rfl) (by kernel_rfl) (by kernel_rfl) (fun _ _ _ h => h) (Or.inl ⟨by rfl, ?hyb5_5⟩) (by assumption) ?restb5_5
              case hyb5_5 => (intro w hSw; (try dsimp only at hSw); obtain ⟨hSw, hSc⟩ := hSw; go_simp; try with_reducible rfl)
              try simp only [Act.put, List.getElem_toArray, List.getElem_cons_succ, List.getElem_cons_zero, List.setIfInBounds_toArray, List.set_cons_zero, List.set_cons_succ]
              refine wpAnyH_take (i := 6) (v := ?vb6_6) rfl (by kernel_rfl) (by kernel_rfl) (by kernel_rfl) (fun _ _ _ h => h) (Or.inl ⟨by rfl, ?hyb6_6⟩) (by assumption) ?restb6_6
              case hyb6_6 => (intro w hSw; (try dsimp only at hSw); obtain ⟨hSw, hSc⟩ := hSw; go_simp; try with_reducible rfl)
              try simp only [Act.put, List.getElem_toArray, List.getElem_cons_succ, List.getElem_cons_zero, List.setIfInBounds_toArray, List.set_cons_zero, List.set_cons_succ]
              refine wpAnyH_take (i := 7) (v := ?vb7_7) rfl (by kernel_rfl) (by kernel_rfl) (by kernel_rfl) (fun _ _ _ h => h) (Or.inl ⟨by rfl, ?hyb7_7⟩) (by assumption) ?restb7_7
              case hyb7_7 => (intro w hSw; (try dsimp only at hSw); obtain ⟨hSw, hSc⟩ := hSw; go_simp; try with_reducible rfl)
              try simp only [Act.put, List.getElem_toArray, List.getElem_cons_succ, List.getElem_cons_zero, List.setIfInBounds_toArray, List.set_cons_zero, List.set_cons_succ]
              refine wpAnyH_ready (rs := [1, 8]) (by kernel_rfl) (by simp) ?_
              refine AllReadyH.cons rfl (fun Kc hKc => ?_) (AllReadyH.cons rfl (fun Kc hKc => ?_) AllReadyH.nil)
              · go_simp
                refine hKc.out _ _ ?_ (fun hHeld => ?_)
                · assumption
                clear hKc Kc
                try simp only [Act.put, List.getElem_toArray, List.getElem_cons_succ, List.getElem_cons_zero, List.setIfInBounds_toArray, List.set_cons_zero, List.set_cons_succ]
                refine wpAnyH_ready (rs := [8]) (by kernel_rfl) (by simp) ?_
                refine AllReadyH.cons rfl (fun Kc hKc => ?_) AllReadyH.nil
                go_simp
                go_at_call 133
                refine Calls.mono hbits ?_
                rintro eK wK ⟨kv, rfl, hgK, rfl⟩
                have hgK0 : Ext wr wK := grown_trans (grown_drew _ _) hgK
                have hgK2 : wZ.grownBy wK (some ob) := grown_trans hg (grown_of_ext _ hgK0)
                have hk0 := hgK0.cell ho0 (by simp)
                have hk1 := hgK0.cell ho1 (by simp)
                have hkf : ∀ k, wK.frozen? ⟨ob, k, none⟩ = false := fun k => (World.frozen?_of_block (w := wr) (hgK0.block ob hob (by simp))).trans (hof k)
                have hOK := hO.ext0 hgK0
                have hzK := hgK0.size
                have hobK : ob < wK.heap.size := by omega
                go_wp2_with fail
                refine hKc.out _ _ ?_ (fun hHeld => ?_)
                · exact ⟨hgK2, hk0⟩
                clear hKc Kc
                try simp only [Act.put, List.getElem_toArray, List.getElem_cons_succ, List.getElem_cons_zero, List.setIfInBounds_toArray, List.set_cons_zero, List.set_cons_succ]
                refine wpAnyH_ready (rs := [9]) (by kernel_rfl) (by simp) ?_
                refine AllReadyH.cons rfl (fun Kc hKc => ?_) AllReadyH.nil
                go_simp
                refine hKc.out _ _ ?_ (fun hHeld => ?_)
                · exact ⟨grown_trans hgK2 (grown_of_ext _ (World.grownBy_alloc _ _ _)), (World.grownBy_alloc wK _ none).cell hk0 (by simp)⟩
                clear hKc Kc
                try simp only [Act.put, List.getElem_toArray, List.getElem_cons_succ, List.getElem_cons_zero, List.setIfInBounds_toArray, List.set_cons_zero, List.set_cons_succ]
                refine wpAnyH_ready (rs := [10]) (by kernel_rfl) (by simp) ?_
                refine AllReadyH.cons rfl (fun Kc hKc => ?_) AllReadyH.nil
                refine step_app_int rfl _ _ rfl wZ.heap.size (.slice mva mvn mvc) (natI ((L.take k).map (mskU P))) (q : Int) rfl wK hOK rfl rfl HU.out.2 (by omega) ?_
                intro v8 w8 hO8 hg8
                have hbk : ∀ b, (Value.slice mva mvn mvc).ownBlock = some b → wZ.heap.size ≤ b := fun b hb => (hOK.lt b hb).1
                have hj0 := hg8.cell hk0 (fun e => by have h0 : wZ.heap.size ≤ ob := hbk _ e.symm; omega)
                have hj1 := hg8.cell hk1 (fun e => by have h0 : wZ.heap.size ≤ ob := hbk _ e.symm; omega)
                have hjf : ∀ k, w8.frozen? ⟨ob, k, none⟩ = false := fun k => (World.frozen?_of_block (w := wK) (hg8.block ob (by omega) (fun e => by have := hbk _ e.symm; omega))).trans (hkf k)
                have hgw8 : wZ.grownBy w8 (some ob) := grown_own hgK2 hg8 (fun b hb hlt => by have := hbk b hb; omega)
                obtain ⟨ja, jn, jc, hj8⟩ : ∃ a n c, v8 = .slice a n c := (by rcases hO8.2 with ⟨h1, _⟩ | ⟨g, cp, _, h1, _⟩ <;> exact ⟨_, _, _, h1⟩)
                subst hj8
                have hgp := grown_put w8 ⟨ob, 1, none⟩ (.slice ja jn jc)
                have hn0 : (w8.setCell ⟨ob, 1, none⟩ (.slice ja jn jc)).cell? ⟨ob, 0, none⟩ = some (.slice (some ⟨bL, oL, none⟩) L.length sc) := (World.cell?_setCell_other _ _ _ _ (by simp)).trans hj0
                have hn1 : (w8.setCell ⟨ob, 1, none⟩ (.slice ja jn jc)).cell? ⟨ob, 1, none⟩ = some (.slice ja jn jc) := World.cell?_setCell_same _ _ _ hj1
                have hnf : ∀ k, (w8.setCell ⟨ob, 1, none⟩ (.slice ja jn jc)).frozen? ⟨ob, k, none⟩ = false := fun k => by rw [World.frozen?_setCell]; exact hjf k
                have hns : ob < (w8.setCell ⟨ob, 1, none⟩ (.slice ja jn jc)).heap.size := by have := hgp.size; have := hg8.size; omega
                have hne8 : (Value.slice ja jn jc).ownBlock = none ∨ (Value.slice ja jn jc).ownBlock ≠ some ob := .inr (fun e => by have := (hO8.lt _ e).1; omega)
                have hO9 : Own wZ.heap.size (w8.setCell ⟨ob, 1, none⟩ (.slice ja jn jc)) (.slice ja jn jc) (natI ((L.take (k + 1)).map (mskU P))) := by rw [HU.out.1]; exact Own.of (hO8.v.kept hgp hne8)
                have hgw9 := grown_trans hgw8 hgp
                refine hKc.out _ _ ?_ (fun hHeld => ?_)
                · exact ⟨hgw8, hj0⟩
                clear hKc Kc
                try simp only [Act.put, List.getElem_toArray, List.getElem_cons_succ, List.getElem_cons_zero, List.setIfInBounds_toArray, List.set_cons_zero, List.set_cons_succ]
                refine wpAnyH_take (i := 11) (v := ?vb11_8) rfl (by kernel_rfl) (by kernel_rfl) (by kernel_rfl) (fun _ _ _ h => h) (Or.inl ⟨by rfl, ?hyb11_8⟩) (by assumption) ?restb11_8
                case hyb11_8 => (intro w hSw; (try dsimp only at hSw); obtain ⟨hSw, hSc⟩ := hSw; go_simp; try with_reducible rfl)
                try simp only [Act.put, List.getElem_toArray, List.getElem_cons_succ, List.getElem_cons_zero, List.setIfInBounds_toArray, List.set_cons_zero, List.set_cons_succ]
                refine wpAnyH_ready (rs := [12]) (by kernel_rfl) (by simp) ?_
                refine AllReadyH.cons rfl (fun Kc hKc => ?_) AllReadyH.nil
                go_simp
                refine hKc.out _ _ ?_ (fun hHeld => ?_)
                · exact ⟨hgw9, hn0⟩
                clear hKc Kc
                try simp only [Act.put, List.getElem_toArray, List.getElem_cons_succ, List.getElem_cons_zero, List.setIfInBounds_toArray, List.set_cons_zero, List.set_cons_succ]
                refine wpAnyH_done (by kernel_rfl) ?_ _
                clear hk0 hk1 hkf hj0 hj1 hjf ho0 ho1 hof
                go_wp2
                go_roundw
                case rel => exact ⟨k + 1, _, by go_num, by omega, hgw9, hn0, hn1, hnf, hns, hO9⟩
                case measure => simp [intOf]; omega
              · go_simp
                go_at_call 133
                refine Calls.mono hbits ?_
                rintro eK wK ⟨kv, rfl, hgK, rfl⟩
                have hgK0 : Ext wr wK := grown_trans (grown_drew _ _) hgK
                have hgK2 : wZ.grownBy wK (some ob) := grown_trans hg (grown_of_ext _ hgK0)
                have hk0 := hgK0.cell ho0 (by simp)
                have hk1 := hgK0.cell ho1 (by simp)
                have hkf : ∀ k, wK.frozen? ⟨ob, k, none⟩ = false := fun k => (World.frozen?_of_block (w := wr) (hgK0.block ob hob (by simp))).trans (hof k)
                have hOK := hO.ext0 hgK0
                have hzK := hgK0.size
                have hobK : ob < wK.heap.size := by omega
                go_wp2_with fail
                refine hKc.out _ _ ?_ (fun hHeld => ?_)
                · exact ⟨hgK2, hk0⟩
                clear hKc Kc
                try simp only [Act.put, List.getElem_toArray, List.getElem_cons_succ, List.getElem_cons_zero, List.setIfInBounds_toArray, List.set_cons_zero, List.set_cons_succ]
                refine wpAnyH_ready (rs := [1, 9]) (by kernel_rfl) (by simp) ?_
                refine AllReadyH.cons rfl (fun Kc hKc => ?_) (AllReadyH.cons rfl (fun Kc hKc => ?_) AllReadyH.nil)
                · go_simp
                  refine hKc.out _ _ ?_ (fun hHeld => ?_)
                  · assumption
                  clear hKc Kc
                  try simp only [Act.put, List.getElem_toArray, List.getElem_cons_succ, List.getElem_cons_zero, List.setIfInBounds_toArray, List.set_cons_zero, List.set_cons_succ]
                  refine wpAnyH_ready (rs := [9]) (by kernel_rfl) (by simp) ?_
                  refine AllReadyH.cons rfl (fun Kc hKc => ?_) AllReadyH.nil
                  go_simp
                  refine hKc.out _ _ ?_ (fun hHeld => ?_)
                  · exact ⟨grown_trans hgK2 (grown_of_ext _ (World.grownBy_alloc _ _ _)), (World.grownBy_alloc wK _ none).cell hk0 (by simp)⟩
                  clear hKc Kc
                  try simp only [Act.put, List.getElem_toArray, List.getElem_cons_succ, List.getElem_cons_zero, List.setIfInBounds_toArray, List.set_cons_zero, List.set_cons_succ]
                  refine wpAnyH_ready (rs := [10]) (by kernel_rfl) (by simp) ?_
                  refine AllReadyH.cons rfl (fun Kc hKc => ?_) AllReadyH.nil
                  refine step_app_int rfl _ _ rfl wZ.heap.size (.slice mva mvn mvc) (natI ((L.take k).map (mskU P))) (q : Int) rfl wK hOK rfl rfl HU.out.2 (by omega) ?_
                  intro v8 w8 hO8 hg8
                  have hbk : ∀ b, (Value.slice mva mvn mvc).ownBlock = some b → wZ.heap.size ≤ b := fun b hb => (hOK.lt b hb).1
                  have hj0 := hg8.cell hk0 (fun e => by have h0 : wZ.heap.size ≤ ob := hbk _ e.symm; omega)
                  have hj1 := hg8.cell hk1 (fun e => by have h0 : wZ.heap.size ≤ ob := hbk _ e.symm; omega)
                  have hjf : ∀ k, w8.frozen? ⟨ob, k, none⟩ = false := fun k => (World.frozen?_of_block (w := wK) (hg8.block ob (by omega) (fun e => by have := hbk _ e.symm; omega))).trans (hkf k)
                  have hgw8 : wZ.grownBy w8 (some ob) := grown_own hgK2 hg8 (fun b hb hlt => by have := hbk b hb; omega)
                  obtain ⟨ja, jn, jc, hj8⟩ : ∃ a n c, v8 = .slice a n c := (by rcases hO8.2 with ⟨h1, _⟩ | ⟨g, cp, _, h1, _⟩ <;> exact ⟨_, _, _, h1⟩)
                  subst hj8
                  have hgp := grown_put w8 ⟨ob, 1, none⟩ (.slice ja jn jc)
                  have hn0 : (w8.setCell ⟨ob, 1, none⟩ (.slice ja jn jc)).cell? ⟨ob, 0, none⟩ = some (.slice (some ⟨bL, oL, none⟩) L.length sc) := (World.cell?_setCell_other _ _ _ _ (by simp)).trans hj0
                  have hn1 : (w8.setCell ⟨ob, 1, none⟩ (.slice ja jn jc)).cell? ⟨ob, 1, none⟩ = some (.slice ja jn jc) := World.cell?_setCell_same _ _ _ hj1
                  have hnf : ∀ k, (w8.setCell ⟨ob, 1, none⟩ (.slice ja jn jc)).frozen? ⟨ob, k, none⟩ = false := fun k => by rw [World.frozen?_setCell]; exact hjf k
                  have hns : ob < (w8.setCell ⟨ob, 1, none⟩ (.slice ja jn jc)).heap.size := by have := hgp.size; have := hg8.size; omega
                  have hne8 : (Value.slice ja jn jc).ownBlock = none ∨ (Value.slice ja jn jc).ownBlock ≠ some ob := .inr (fun e => by have := (hO8.lt _ e).1; omega)
                  have hO9 : Own wZ.heap.size (w8.setCell ⟨ob, 1, none⟩ (.slice ja jn jc)) (.slice ja jn jc) (natI ((L.take (k + 1)).map (mskU P))) := by rw [HU.out.1]; exact Own.of (hO8.v.kept hgp hne8)
                  have hgw9 := grown_trans hgw8 hgp
                  refine hKc.out _ _ ?_ (fun hHeld => ?_)
                  · exact ⟨hgw8, hj0⟩
                  clear hKc Kc
                  try simp only [Act.put, List.getElem_toArray, List.getElem_cons_succ, List.getElem_cons_zero, List.setIfInBounds_toArray, List.set_cons_zero, List.set_cons_succ]
                  refine wpAnyH_take (i := 11) (v := ?vb11_9) rfl (by kernel_rfl) (by kernel_rfl) (by kernel_rfl) (fun _ _ _ h => h) (Or.inl ⟨by rfl, ?hyb11_9⟩) (by assumption) ?restb11_9
                  case hyb11_9 => (intro w hSw; (try dsimp only at hSw); obtain ⟨hSw, hSc⟩ := hSw; go_simp; try with_reducible rfl)
                  try simp only [Act.put, List.getElem_toArray, List.getElem_cons_succ, List.getElem_cons_zero, List.setIfInBounds_toArray, List.set_cons_zero, List.set_cons_succ]
                  refine wpAnyH_ready (rs := [12]) (by kernel_rfl) (by simp) ?_
                  refine AllReadyH.cons rfl (fun Kc hKc => ?_) AllReadyH.nil
                  go_simp
                  refine hKc.out _ _ ?_ (fun hHeld => ?_)
                  · exact ⟨hgw9, hn0⟩
                  clear hKc Kc
                  try simp only [Act.put, List.getElem_toArray, List.getElem_cons_succ, List.getElem_cons_zero, List.setIfInBounds_toArray, List.set_cons_zero, List.set_cons_succ]
                  refine wpAnyH_done (by kernel_rfl) ?_ _
                  clear hk0 hk1 hkf hj0 hj1 hjf ho0 ho1 hof
                  go_wp2
                  go_roundw
                  case rel => exact ⟨k + 1, _, by go_num, by omega, hgw9, hn0, hn1, hnf, hns, hO9⟩
                  case measure => simp [intOf]; omega
                · go_simp
                  refine hKc.out _ _ ?_ (fun hHeld => ?_)
                  · exact ⟨grown_trans hgK2 (grown_of_ext _ (World.grownBy_alloc _ _ _)), (World.grownBy_alloc wK _ none).cell hk0 (by simp)⟩
                  clear hKc Kc
                  try simp only [Act.put, List.getElem_toArray, List.getElem_cons_succ, List.getElem_cons_zero, List.setIfInBounds_toArray, List.set_cons_zero, List.set_cons_succ]
                  refine wpAnyH_ready (rs := [1]) (by kernel_rfl) (by simp) ?_
                  refine AllReadyH.cons rfl (fun Kc hKc => ?_) AllReadyH.nil
                  go_simp
                  refine hKc.out _ _ ?_ (fun hHeld => ?_)
                  · assumption
                  clear hKc Kc
                  try simp only [Act.put, List.getElem_toArray, List.getElem_cons_succ, List.getElem_cons_zero, List.setIfInBounds_toArray, List.set_cons_zero, List.set_cons_succ]
                  refine wpAnyH_ready (rs := [10]) (by kernel_rfl) (by simp) ?_
                  refine AllReadyH.cons rfl (fun Kc hKc => ?_) AllReadyH.nil
                  refine step_app_int rfl _ _ rfl wZ.heap.size (.slice mva mvn mvc) (natI ((L.take k).map (mskU P))) (q : Int) rfl wK hOK rfl rfl HU.out.2 (by omega) ?_
                  intro v8 w8 hO8 hg8
                  have hbk : ∀ b, (Value.slice mva mvn mvc).ownBlock = some b → wZ.heap.size ≤ b := fun b hb => (hOK.lt b hb).1
                  have hj0 := hg8.cell hk0 (fun e => by have h0 : wZ.heap.size ≤ ob := hbk _ e.symm; omega)
                  have hj1 := hg8.cell hk1 (fun e => by have h0 : wZ.heap.size ≤ ob := hbk _ e.symm; omega)
                  have hjf : ∀ k, w8.frozen? ⟨ob, k, none⟩ = false := fun k => (World.frozen?_of_block (w := wK) (hg8.block ob (by omega) (fun e => by have := hbk _ e.symm; omega))).trans (hkf k)
                  have hgw8 : wZ.grownBy w8 (some ob) := grown_own hgK2 hg8 (fun b hb hlt => by have := hbk b hb; omega)
                  obtain ⟨ja, jn, jc, hj8⟩ : ∃ a n c, v8 = .slice a n c := (by rcases hO8.2 with ⟨h1, _⟩ | ⟨g, cp, _, h1, _⟩ <;> exact ⟨_, _, _, h1⟩)
                  subst hj8
                  have hgp := grown_put w8 ⟨ob, 1, none⟩ (.slice ja jn jc)
                  have hn0 : (w8.setCell ⟨ob, 1, none⟩ (.slice ja jn jc)).cell? ⟨ob, 0, none⟩ = some (.slice (some ⟨bL, oL, none⟩) L.length sc) := (World.cell?_setCell_other _ _ _ _ (by simp)).trans hj0
                  have hn1 : (w8.setCell ⟨ob, 1, none⟩ (.slice ja jn jc)).cell? ⟨ob, 1, none⟩ = some (.slice ja jn jc) := World.cell?_setCell_same _ _ _ hj1
                  have hnf : ∀ k, (w8.setCell ⟨ob, 1, none⟩ (.slice ja jn jc)).frozen? ⟨ob, k, none⟩ = false := fun k => by rw [World.frozen?_setCell]; exact hjf k
                  have hns : ob < (w8.setCell ⟨ob, 1, none⟩ (.slice ja jn jc)).heap.size := by have := hgp.size; have := hg8.size; omega
                  have hne8 : (Value.slice ja jn jc).ownBlock = none ∨ (Value.slice ja jn jc).ownBlock ≠ some ob := .inr (fun e => by have := (hO8.lt _ e).1; omega)
                  have hO9 : Own wZ.heap.size (w8.setCell ⟨ob, 1, none⟩ (.slice ja jn jc)) (.slice ja jn jc) (natI ((L.take (k + 1)).map (mskU P))) := by rw [HU.out.1]; exact Own.of (hO8.v.kept hgp hne8)
                  have hgw9 := grown_trans hgw8 hgp
                  refine hKc.out _ _ ?_ (fun hHeld => ?_)
                  · exact ⟨hgw8, hj0⟩
                  clear hKc Kc
                  try simp only [Act.put, List.getElem_toArray, List.getElem_cons_succ, List.getElem_cons_zero, List.setIfInBounds_toArray, List.set_cons_zero, List.set_cons_succ]
                  refine wpAnyH_take (i := 11) (v := ?vb11_10) rfl (by kernel_rfl) (by kernel_rfl) (by kernel_rfl) (fun _ _ _ h => h) (Or.inl ⟨by rfl, ?hyb11_10⟩) (by assumption) ?restb11_10
                  case hyb11_10 => (intro w hSw; (try dsimp only at hSw); obtain ⟨hSw, hSc⟩ := hSw; go_simp; try with_reducible rfl)
                  try simp only [Act.put, List.getElem_toArray, List.getElem_cons_succ, List.getElem_cons_zero, List.setIfInBounds_toArray, List.set_cons_zero, List.set_cons_succ]
                  refine wpAnyH_ready (rs := [12]) (by kernel_rfl) (by simp) ?_
                  refine AllReadyH.cons rfl (fun Kc hKc => ?_) AllReadyH.nil
                  go_simp
                  refine hKc.out _ _ ?_ (fun hHeld => ?_)
                  · exact ⟨hgw9, hn0⟩
                  clear hKc Kc
                  try simp only [Act.put, List.getElem_toArray, List.getElem_cons_succ, List.getElem_cons_zero, List.setIfInBounds_toArray, List.set_cons_zero, List.set_cons_succ]
                  refine wpAnyH_done (by kernel_rfl) ?_ _
                  clear hk0 hk1 hkf hj0 hj1 hjf ho0 ho1 hof
                  go_wp2
                  go_roundw
                  case rel => exact ⟨k + 1, _, by go_num, by omega, hgw9, hn0, hn1, hnf, hns, hO9⟩
                  case measure => simp [intOf]; omega
            · have hke : k = L.length := by omega
              have hO2 : Own wZ.heap.size wr mv (natI (L.map (mskU P))) := by rw [List.take_of_length_le (by omega)] at hO; exact hO
              have hMI : Ints (fun j => w0.heap.size ≤ j) wr mv (natI (L.map (mskU P))) := ints_of_own hO2 (by rw [natI_len, List.length_map]; omega) (fun j hj => by
                have h1 := (hO2.lt j hj).1
                have := hg0Z.size
                omega)
              obtain ⟨ma, mc, hmv, _, _⟩ := hMI.shape
              subst hmv
              have hsw0 := hgZ.size
              have hsw2 := hg2.size
              have hswF := hg2F.size
              have hszw := hgw.size
              have hLR : Rows3 (fun j => w0.heap.size ≤ j) wr (.slice (some ⟨bL, oL, none⟩) L.length sc) L := Rows3.mono hL (frame_of hg (fun j hj _ => ⟨by have := hj.2; omega, fun e => hj.1 (by simpa using e.symm)⟩))
              have hswx := HB.out.2.1
              have hrc : ∀ k, k < 2 → wr.cell? ⟨w.heap.size + 1, k, none⟩ = some (.slice none 0 0) ∧ wr.frozen? ⟨w.heap.size + 1, k, none⟩ = false := fun k hk => by
                have h1 := (grown_of_ext (some ob) hg0Z)
                have h2 := grown_trans h1 hg
                exact ⟨h2.cell (HB.out.2.2.1 k hk).1 (by simp; omega), (World.frozen?_of_block (w := w0) (h2.block (w.heap.size + 1) (by omega) (by simp; omega))).trans (HB.out.2.2.1 k hk).2⟩
              obtain ⟨hr0, hf0⟩ := hrc 0 (by omega)
              obtain ⟨hr1, hf1⟩ := hrc 1 (by omega)
              have hEw : Ext w wr := grown_own (grown_trans hgw hg0Z) hg (fun b hb hlt => by have : ob = b := (by simpa using hb); omega)
              generalize (natI (L.map (mskU P))).length = nl at *
              have HR := Lib.hid (And.intro hMI (And.intro hLR hEw)); clear hMI hLR hEw hrc hO hO2
              have hnk : ¬ (k : Int) < L.length := by omega
              have hgr : wr.grownBy ((wr.setCell ⟨w.heap.size + 1, 0, none⟩ (.slice (some ⟨bL, oL, none⟩) L.length sc)).setCell ⟨w.heap.size + 1, 1, none⟩ (.slice ma nl mc)) (some (w.heap.size + 1)) := grown_trans (grown_put wr ⟨w.heap.size + 1, 0, none⟩ _) (grown_put _ ⟨w.heap.size + 1, 1, none⟩ _)
              have hE9 := grown_own HR.out.2.2 hgr (fun b hb hlt => by have : w.heap.size + 1 = b := (by simpa using hb); omega)
              have hL9 : Rows3 (From w.heap.size) ((wr.setCell ⟨w.heap.size + 1, 0, none⟩ (.slice (some ⟨bL, oL, none⟩) L.length sc)).setCell ⟨w.heap.size + 1, 1, none⟩ (.slice ma nl mc)) (.slice (some ⟨bL, oL, none⟩) L.length sc) L := Rows3.mono HR.out.2.1 (frame_of hgr (fun j hj _ => ⟨by show w.heap.size ≤ j; omega, fun e => by have : w.heap.size + 1 = j := (by simpa using e); omega⟩))
              have hM9 : Ints (From w.heap.size) ((wr.setCell ⟨w.heap.size + 1, 0, none⟩ (.slice (some ⟨bL, oL, none⟩) L.length sc)).setCell ⟨w.heap.size + 1, 1, none⟩ (.slice ma nl mc)) (.slice ma nl mc) (natI (L.map (mskU P))) := Ints.mono HR.out.1 (frame_of hgr (fun j hj _ => ⟨by show w.heap.size ≤ j; omega, fun e => by have : w.heap.size + 1 = j := (by simpa using e); omega⟩))
              have H9 := Lib.hid (And.intro hE9 (And.intro hL9 hM9)); clear hE9 hL9 hM9 hgr
              go_wp2
              have q0 : ((wr.setCell ⟨w.heap.size + 1, 0, none⟩ (.slice (some ⟨bL, oL, none⟩) L.length sc)).setCell ⟨w.heap.size + 1, 1, none⟩ (.slice ma nl mc)).cell? ⟨w.heap.size + 1, 0, none⟩ = some (.slice (some ⟨bL, oL, none⟩) L.length sc) := (World.cell?_setCell_other _ _ _ _ (by simp)).trans (World.cell?_setCell_same _ _ _ hr0)
              have q1 : ((wr.setCell ⟨w.heap.size + 1, 0, none⟩ (.slice (some ⟨bL, oL, none⟩) L.length sc)).setCell ⟨w.heap.size + 1, 1, none⟩ (.slice ma nl mc)).cell? ⟨w.heap.size + 1, 1, none⟩ = some (.slice ma nl mc) := World.cell?_setCell_same _ _ _ ((World.cell?_setCell_other _ _ _ _ (by simp)).trans hr1)
              refine bodyPost_ret (v := .agg #[.slice (some ⟨bL, oL, none⟩) L.length sc, .slice ma nl mc]) (by simp [results, Tryz.results76, go_sem, q0, q1]) rfl ?_
              exact ⟨_, rfl, H9.out.1, _, _, rfl, L, HL.out, H9.out.2.1, H9.out.2.2⟩

end Go.Proofs.YtigbpdaomgagiaaGreat

/- The list of all subgroups as one value; its bounds. -/
namespace Go.Proofs.YtigbpdaomgagiaaGreat
open Go.RowKit

open Classical in
/-- the one ascending list of all subgroups -/
noncomputable def latL (P : Pr) : List (List (List Int)) := if h : ∃ L, LatL P L then Classical.choose h else []
theorem latL_eq {P : Pr} {L : List (List (List Int))} (h : LatL P L) : latL P = L := by
  have hx : ∃ L, LatL P L := ⟨L, h⟩
  unfold latL
  rw [dif_pos hx]
  exact LatL.one (Classical.choose_spec hx) h
theorem latC_zero {P : Pr} (h : latC P = 0) : rconsB P = true ∧ ordP P ≤ 32 := by
  unfold latC at h
  cases hr : rconsB P with
  | false => rw [hr] at h; simp at h
  | true =>
    rw [hr] at h
    simp only [if_true] at h
    refine ⟨rfl, ?_⟩
    split at h <;> omega

theorem sz_bnd {α : Type} [Inhabited α] (sz : α → Nat) (xs : List α) (b : Nat) (h : ∀ x ∈ xs, sz x ≤ b) (k : Nat) (hk : k ≤ xs.length) : szTo sz xs k ≤ b * k := by
  induction k with
  | zero => simp [szTo]
  | succ k ih =>
    have h1 := ih (by omega)
    have h2 := h _ (gt_mem (l := xs) (i := k) (by omega))
    simp only [szTo, Nat.mul_succ]; omega

section
variable {P : Pr} (G : Grp P)
include G
theorem Grp.mskU_inj {u v : List (List Int)} (hu : SubB P u) (hv : SubB P v) (h : mskU P u = mskU P v) : u = v := by
  have := G.msk_inj (G.subB hu) (G.subB hv) h
  rw [hu.2, hv.2, this]
theorem Grp.lat_len (h32 : ordP P ≤ 32) {L : List (List (List Int))} (h : LatL P L) : L.length ≤ 17408 := by
  have hn : (L.map (mskU P)).Nodup := by
    refine List.nodup_iff_pairwise_ne.2 ?_
    rw [List.pairwise_map]
    refine h.1.imp_of_mem (fun {a b} ha hb hab e => ?_)
    have := G.mskU_inj ((h.2 a).1 ha) ((h.2 b).1 hb) e
    subst this
    exact subLt_irrefl hab
  have := G.few_subs h32 hn (fun m hm => by
    obtain ⟨u, hu, rfl⟩ := List.mem_map.1 hm
    exact ⟨_, G.subB ((h.2 u).1 hu), rfl⟩)
  rwa [List.length_map] at this
theorem Grp.lat_row {L : List (List (List Int))} (h : LatL P L) : ∀ u ∈ L, u.length ≤ 6 ∧ ∀ x ∈ u, x.length ≤ 6 := fun u hu => by
  have hb := (h.2 u).1 hu
  have := G.sub_len hb
  have := G.v.n6
  exact ⟨by omega, fun x hx => by rw [(hb.1 x hx).1]; omega⟩
end

/-- a part of the list of all subgroups: its size -/
theorem part_tot {X : List (List (List Int))} (hl : X.length ≤ 17408) (hr : ∀ u ∈ X, u.length ≤ 6 ∧ ∀ x ∈ u, x.length ≤ 6) : tot3 X ≤ 100000000 := by
  have h2 : ∀ u ∈ X, tot2 u ≤ 36 := fun u hu => by
    have := sz_bnd List.length u 6 (hr u hu).2 _ (Nat.le_refl _)
    have := (hr u hu).1
    unfold tot2; omega
  have := sz_bnd tot2 X 36 h2 _ (Nat.le_refl _)
  unfold tot3; omega

end Go.Proofs.YtigbpdaomgagiaaGreat

/- spec.l19Code, l19All, l19Own. -/
namespace Go.Proofs.YtigbpdaomgagiaaGreat
open Go.RowKit

set_option maxRecDepth 100000 in
set_option maxHeartbeats 1000000 in
theorem l19Code_ok (P : Pr) (w : World) (pv : Value) (Sp : Nat → Prop) (hpv : PresV Sp w pv P) :
    Calls Tryz.prog 74 #[pv] w (Ret w fun _ v => v = .int .i64 (latC P)) := by
  obtain ⟨vo, vp, vc, rfl, h3⟩ := hpv
  have hp0 := PresP.box h3 31
  have hg0 : Ext w (w.alloc (.cells #[vo, vp, vc] 31)) := World.grownBy_alloc _ _ _
  obtain ⟨vo6, vp6, vc6, _, _, hc0, hc1, hc2, h36⟩ := hp0.at
  simp only [Nat.zero_add] at hc1 hc2
  have hbx : ∀ w', Ext (w.alloc (.cells #[vo, vp, vc] 31)) w' → w'.cell? ⟨w.heap.size, 0, none⟩ = some vo6 ∧ w'.cell? ⟨w.heap.size, 1, none⟩ = some vp6 ∧ w'.cell? ⟨w.heap.size, 2, none⟩ = some vc6 := fun w' h => ⟨h.cell hc0 (by simp), h.cell hc1 (by simp), h.cell hc2 (by simp)⟩
  have HB := Lib.hid hbx; clear hbx hp0
  have hgr := l08Group_ok P _ (.agg #[vo6, vp6, vc6]) Any ⟨_, _, _, rfl, h36⟩
  go_enter Tryz.func74, Tryz.ntmps74
  go_wp2_with fail
  clear hc0 hc1 hc2
  generalize hw0 : w.alloc (.cells #[vo, vp, vc] 31) = w0 at *
  clear hw0
  refine Calls.mono hgr ?_
  rintro e1 w1 ⟨v1, rfl, hg1, rfl⟩
  clear hgr
  cases hq : rconsB P with
  | false =>
    have e : latC P = 1 := by unfold latC; rw [hq]; rfl
    have HE := Lib.hid e; clear e hq
    go_wp2
    go_ret
    exact ⟨_, rfl, grown_trans hg0 hg1, by rw [HE.out]; rfl⟩
  | true =>
    have hP := (grp_of_r hq).v
    have e : latC P = if 32 < ordP P then 3 else 0 := by unfold latC; rw [hq, if_pos rfl]
    have HE := Lib.hid e; clear e hq
    obtain ⟨hc0, hc1, hc2⟩ := HB.out w1 hg1
    go_wp2_with fail
    clear hc0 hc1 hc2
    refine Calls.mono (l10Order_ok w1 _ P Any hP ⟨_, _, _, rfl, Pres3.ext h36 hg1⟩) ?_
    rintro e2 w2 ⟨v2, rfl, hg2, rfl⟩
    by_cases h32 : 32 < ordP P
    · have e := HE.out
      rw [if_pos h32] at e
      have HE2 := Lib.hid e; clear e
      go_wp2
      go_ret
      exact ⟨_, rfl, grown_trans hg0 (grown_trans hg1 hg2), by rw [HE2.out]; rfl⟩
    · have e := HE.out
      rw [if_neg h32] at e
      have HE2 := Lib.hid e; clear e
      go_wp2
      go_ret
      exact ⟨_, rfl, grown_trans hg0 (grown_trans hg1 hg2), by rw [HE2.out]; rfl⟩

set_option maxRecDepth 100000 in
set_option maxHeartbeats 1000000 in
theorem l19All_ok (P : Pr) (G : Grp P) (w : World) (pv : Value) (Sp : Nat → Prop) (h32 : ordP P ≤ 32) (hpv : PresV Sp w pv P) :
    Calls Tryz.prog 83 #[pv] w (Ret w fun w' v => LatL P (latL P) ∧ Rows3 (From w.heap.size) w' v (latL P)) := by
  obtain ⟨vo, vp, vc, rfl, h3⟩ := hpv
  have hg0 : Ext w (w.alloc (.cells #[vo, vp, vc] 31)) := World.grownBy_alloc _ _ _
  have hf := l19Full_ok P G _ (.agg #[vo, vp, vc]) Sp h32 ⟨_, _, _, rfl, h3.ext hg0⟩
  go_enter Tryz.func83, Tryz.ntmps83
  go_wp2_with fail
  generalize hw0 : w.alloc (.cells #[vo, vp, vc] 31) = w0 at *
  clear hw0
  refine Calls.mono hf ?_
  rintro e1 w1 ⟨v1, rfl, hg1, sv, mv, rfl, L, hL, hR, hM⟩
  have hfd : ∀ w, (Instr.field 77 (.agg #[sv, mv]) 0).run Tryz.prog w = .ok sv w := fun _ => by kernel_rfl
  have HL := Lib.hid (And.intro hL hR); clear hL hR hM hf
  obtain ⟨sa, sc, hsv, _, _⟩ := Sl.shape HL.out.2
  subst hsv
  go_wp2
  go_ret
  have he := latL_eq HL.out.1
  exact ⟨_, rfl, grown_trans hg0 hg1, by rw [he]; exact HL.out.1, by rw [he]; exact Rows3.sub HL.out.2 (fun k hk _ => Nat.le_trans hg0.size hk)⟩

set_option maxRecDepth 100000 in
set_option maxHeartbeats 2000000 in
theorem l19Own_ok (w : World) (lv : Value) (L : List (List (List Int))) (S : Nat → Prop) (hl : Rows3 S w lv L) (hr : ∀ u ∈ L, u.length ≤ 6 ∧ ∀ x ∈ u, x.length ≤ 6) (hn : L.length ≤ 100000) :
    Calls Tryz.prog 82 #[lv] w (Ret w fun w' v => SlO (fun F w u (x : List (List Int)) => RowsD F w u x) 23 w.heap.size w' v L) := by
  obtain ⟨al, capl, rfl, _, _⟩ := Sl.shape hl
  have HR := Lib.hid hr; clear hr
  go_enter Tryz.func82, Tryz.ntmps82
  go_wp2
  go_loopw [3, 4] (fun ov iv wr => ∃ (i : Nat) (v4 : Value), v4 = ov ∧ iv = .int .i64 i ∧ i ≤ L.length ∧ Ext w wr ∧ SlO (fun F w u (x : List (List Int)) => RowsD F w u x) 23 w.heap.size wr v4 (L.take i)) (fun _ iv _ => L.length - (intOf iv).toNat)
  case atStart => exact ⟨0, _, rfl, rfl, by omega, World.grownBy_alloc _ _ _, ⟨[], fun _ _ => False, rfl, World.ownsRow_lit w #[] 0 (Nat.le_refl _) (by decide) rfl, by simp, by simp, by simp⟩⟩
  case round =>
    obtain ⟨i, v4, rfl, rfl, hi, hg, hO⟩ := hrel
    by_cases hlt : i < L.length
    · have hlt' : (i : Int) < L.length := by omega
      obtain ⟨b, off, a2, cap2, rfl, _, _, hc, hx⟩ := Rows3.at hl i hlt
      have hcr := hg.cell hc (by simp)
      have hrow := HR.out _ (gt_mem hlt)
      have hstep := take_succ_gt L i hlt
      have hl2 : (L.take i).length ≤ 1000000 := by rw [List.length_take]; omega
      obtain ⟨x, hxd⟩ : ∃ x, x = gt L i := ⟨_, rfl⟩
      rw [← hxd] at hcr hx hrow hstep
      have HX := Lib.hid (And.intro hrow (And.intro hstep hl2)); clear hrow hstep hl2 hc hxd
      go_wp2_with fail
      clear hcr
      refine Calls.mono (l01Own2_ok wr _ x S (Rows2.ext hx hg) (fun z hz => by have := HX.out.1.2 z hz; omega) (by have := HX.out.1.1; omega)) ?_
      rintro eC wC ⟨uv, rfl, hgC, hU⟩
      have hUD : RowsD (From wr.heap.size) wC uv x := hU.toD (by have := HX.out.1.1; omega)
      obtain ⟨ua, uc, hvu, _, _⟩ := SlD.shape hUD
      subst hvu
      go_wp2_with (first | (at_builtin; refine wp_app_one rdRows 24 23 (.slice none 0 0) 24 und_r3 Tryz.infoR3 rfl (by decide) rfl _ _ rfl w.heap.size wr wC v4 _ (L.take i) x rfl hO hgC hUD rfl rfl HX.out.2.2 hg.size ?_; intro v5 w5 hO5 hg5 _) | fail)
      have hg5' : Ext w w5 := grown_own hg hg5 (fun b hb hlt => by have := (SlO.lt hO b hb).1; omega)
      rw [← HX.out.2.1] at hO5
      go_roundw
      case rel => exact ⟨i + 1, v5, rfl, by go_num, by omega, hg5', hO5⟩
      case measure => simp [intOf]; omega
    · have hie : i = L.length := by omega
      have hO2 := hO
      rw [List.take_of_length_le (by omega)] at hO2
      obtain ⟨az, capz, hvz, _, _⟩ := SlD.shape (hO2.toD (by omega))
      subst hvz
      have hnl : ¬ (i : Int) < L.length := by omega
      clear hO hie
      go_wp2
      go_ret
      exact ⟨_, rfl, hg, hO2⟩

end Go.Proofs.YtigbpdaomgagiaaGreat

/- The library's sort on a slice that the call has built: any elements of one cell in blocks of their own, any comparison that lays blocks and draws but turns nothing. -/
namespace Go.Proofs.YtigbpdaomgagiaaGreat
open Go.Proofs Go.Shelf Go.RowKit Go.Lib Go.Sort

/-- a world that grew and drew: the sort's own form -/
theorem ext_grow {W w' : World} (h : Ext W w') (hd : W.drawn ≤ w'.drawn) : ∃ q os', w' = grow (W.drewN q) os' := by
  refine ⟨w'.drawn - W.drawn, w'.heap.extract W.heap.size w'.heap.size, ?_⟩
  obtain ⟨h1, h2, h3, h4, h5⟩ := h
  have hh : W.heap ++ w'.heap.extract W.heap.size w'.heap.size = w'.heap := by
    apply Array.ext
    · simp; omega
    · intro i hi1 hi2
      by_cases hlt : i < W.heap.size
      · rw [Array.getElem_append_left hlt]
        have := h5 i hlt (by simp)
        rw [Array.getElem?_eq_getElem hi2, Array.getElem?_eq_getElem hlt] at this
        exact (Option.some.inj this).symm
      · rw [Array.getElem_append_right (by omega)]
        simp only [Array.getElem_extract]
        congr 1; omega
  cases w' with
  | mk heap tape drawn os output =>
    cases W with
    | mk heap2 tape2 drawn2 os2 output2 =>
      simp only at h1 h2 h3 hh hd
      subst h1; subst h2; subst h3
      unfold grow World.drewN
      simp only [World.mk.injEq]
      exact ⟨hh.symm, trivial, by omega, trivial, trivial⟩

section
variable {α : Type} [Inhabited α]

theorem swo_at {cf : α → α → Int} (h : SWO (ltOf cf)) (L : List α) : SWO (ltOf (fun i j : Nat => cf (gt L i) (gt L j))) where
  irrefl x := h.irrefl (gt L x)
  trans x y z := h.trans (gt L x) (gt L y) (gt L z)
  ntrans x y z := h.ntrans (gt L x) (gt L y) (gt L z)

set_option maxHeartbeats 1000000 in
theorem sortG {P : Program} {ρ : Ren} (Lay : SlLaysF.n6 P ρ) {El : (Nat → Prop) → World → Value → α → Prop} (hEl : RdOk El) (E B : Nat) (cf : α → α → Int) (hS : SWO (ltOf cf)) (g : Nat) (cb : Array Value)
    (eg : ∀ args w, (callFunc g args).run P w = .ok (.enter g args) w) (w : World) (v : Value) (L : List α) (A : Nat → Prop) (hL : SlOA El E B A w v L) (hne : 0 < L.length) (hlen : L.length ≤ 1000000)
    (hnil : ∀ W, El (fun _ => True) W (.slice none 0 0) default)
    (hcmp : ∀ (W : World) (u1 u2 : Value) (x y : α), w.grownBy W v.ownBlock → (x ∈ L ∨ x = default) → (y ∈ L ∨ y = default) → El (fun _ => True) W u1 x → El (fun _ => True) W u2 y →
      Calls P g (#[u1, u2] ++ cb) W fun e w' => e = .returned (.int .i64 (cf x y)) ∧ Ext W w' ∧ W.drawn ≤ w'.drawn) :
    Calls P (ρ.f 6) #[v, .func (.func g) #[] cb] w fun e w' => e = .returned (.tuple #[]) ∧ ∃ L', SlOA El E B A w' v L' ∧ L'.Perm L ∧ L'.Pairwise (fun x y => 0 ≤ cf y x) ∧ w.grownBy w' v.ownBlock := by
  obtain ⟨vs, G, hvl, hO, hG, hd, hE, hav, hav2⟩ := hL
  obtain ⟨_, ⟨rfl, h0⟩ | ⟨gb, cap, cur, rfl, hBg, hb, hnc, hcm, hsz, hx⟩⟩ := hO
  · omega
  have hgs : gb < w.heap.size := (Array.getElem?_eq_some_iff.1 hb).1
  have hone : OneCell (encAt vs) := encAt_one fun i hi => hEl.one (hE i (by omega))
  have hmap : (List.range L.length).map (encAt vs) = vs := by
    apply List.ext_getElem (by simp [hvl])
    intro j h1 h2
    simp [encAt, gt, h2]
  have hH : Go.Sort.Holds (encAt vs) w gb 0 (List.range L.length).toArray := holds_of_blockV hb (by rw [hmap, List.length_range, ← hvl]; simpa using hx)
  have hlays : CmpLays1 P g cb (encAt vs) (fun i j : Nat => cf (gt L i) (gt L j)) gb 0 (List.range L.length).toArray.size w := by
    intro m os dk _ x y
    have hgr : w.grownBy (sortWorld (encAt vs) w gb 0 m dk os) (some gb) := grownBy_sortedV dk
    have hread : ∀ k, El (fun _ => True) (sortWorld (encAt vs) w gb 0 m dk os) (encAt vs k) (gt L k) ∧ (gt L k ∈ L ∨ gt L k = default) := by
      intro k
      by_cases hk : k < vs.length
      · have he := hE k (by omega)
        unfold encAt
        rw [if_pos hk]
        exact ⟨hEl.mono he (fun b hb2 hlt => ⟨trivial, Nat.lt_of_lt_of_le hlt hgr.size, hgr.block b hlt (fun e => (hG k b (by omega) hb2).2.1 (by cases e; rfl))⟩), .inl (gt_mem (by omega))⟩
      · have h1 : gt L k = default := by simp [gt, show ¬ k < L.length by omega]
        unfold encAt
        rw [if_neg hk, h1]
        exact ⟨hnil _, .inr rfl⟩
    refine (hcmp _ _ _ _ _ hgr (hread x).2 (hread y).2 (hread x).1 (hread y).1).mono ?_
    rintro e w' ⟨rfl, he, hdr⟩
    exact ⟨rfl, ext_grow he hdr⟩
  have hcon := Any.slices_SortFunc Lay (encAt vs) hone (fun i j : Nat => cf (gt L i) (gt L j)) (swo_at hS L) g cb gb 0 cap (List.range L.length).toArray w eg hlays hH hgs (by simp; omega)
  have hsz2 : (List.range L.length).toArray.size = vs.length := by simp [hvl]
  rw [hsz2] at hcon
  refine hcon.mono ?_
  rintro e w' ⟨he, d', n, os, ⟨hs1, _, hperm⟩, hsorted, rfl⟩
  have hts : d'.toList.length = L.length := by simpa [hvl] using hs1
  have hP : d'.toList.Perm (List.range L.length) := by
    have h1 : d'.extract 0 vs.length = d' := by
      apply Array.ext'
      rw [hvl, ← hts]; simp
    have h2 : (List.range L.length).toArray.extract 0 vs.length = (List.range L.length).toArray := by
      apply Array.ext'
      rw [hvl]; simp
    rw [h1, h2] at hperm
    simpa using hperm
  have hin : ∀ i, i < L.length → gt d'.toList i < L.length := fun i hi => by
    have := hP.subset (gt_mem (l := d'.toList) (i := i) (by omega))
    simpa using this
  have hnd : d'.toList.Nodup := hP.symm.nodup List.nodup_range
  have hmapL : (List.range L.length).map (gt L) = L := by
    apply List.ext_getElem (by simp)
    intro j h1 h2
    simp [gt, h2]
  have hgr : w.grownBy (sortWorld (encAt vs) w gb 0 n d' os) (some gb) := grownBy_sortedV d'
  have hgv : ∀ i, i < L.length → gt (d'.toList.map (encAt vs)) i = gt vs (gt d'.toList i) := fun i hi => by
    have h1 : gt (d'.toList.map (encAt vs)) i = encAt vs (gt d'.toList i) := gt_map _ _ _ (by omega)
    rw [h1]; unfold encAt; rw [if_pos (by rw [hvl]; exact hin i hi)]
  have hgL : ∀ i, i < L.length → gt (d'.toList.map (gt L)) i = gt L (gt d'.toList i) := fun i hi => gt_map _ _ _ (by omega)
  refine ⟨he, d'.toList.map (gt L), ⟨d'.toList.map (encAt vs), fun i k => G (gt d'.toList i) k, by simp, ?_, ?_, ?_, ?_, fun i k hi hk => hav (gt d'.toList i) k (hin i (by simp only [List.length_map] at hi; omega)) hk, hav2⟩, ?_, ?_, hgr⟩
  · have := ownsRow_sortedV (enc := encAt vs) (n := n) (os := os) (ss := List.range L.length) (ts := d'.toList) (by rw [hts, List.length_range]) hBg hb (by rw [List.length_range, ← hvl]; exact hnc) hcm hsz
    rw [List.length_range, ← hvl] at this
    unfold OwnV
    rw [show (d'.toList.map (encAt vs)).length = vs.length by rw [List.length_map, hts, hvl]]
    simpa using this
  · intro i k hi hk
    obtain ⟨a1, a2, a3⟩ := hG _ k (hin i (by simp only [List.length_map] at hi; omega)) hk
    exact ⟨a1, a2, Nat.lt_of_lt_of_le a3 hgr.size⟩
  · intro i j k hi hj hk hk'
    simp only [List.length_map] at hi hj
    exact gt_inj hnd (by omega) (by omega) (hd _ _ k (hin i (by omega)) (hin j (by omega)) hk hk')
  · intro i hi
    simp only [List.length_map] at hi
    rw [hgv i (by omega), hgL i (by omega)]
    have he := hE _ (hin i (by omega))
    exact hEl.mono he (fun b hb2 hlt => ⟨hb2, Nat.lt_of_lt_of_le hlt hgr.size, hgr.block b hlt (fun e => (hG _ b (hin i (by omega)) hb2).2.1 (by cases e; rfl))⟩)
  · have := hP.map (gt L)
    rwa [hmapL] at this
  · refine List.pairwise_iff_getElem.2 ?_
    intro i j hi hj hij
    have hi' : i < d'.size := by simpa using hi
    have hj' : j < d'.size := by simpa using hj
    have h1 := hsorted i j (Nat.zero_le _) hij (by rw [hs1, hsz2] at hj'; exact hj')
    rw [getElem!_pos d' i hi', getElem!_pos d' j hj'] at h1
    unfold ltOf at h1
    rw [decide_eq_false_iff_not] at h1
    simp only [List.getElem_map, Array.getElem_toList]
    have h2 : ¬ cf (gt L d'[j]) (gt L d'[i]) < 0 := h1
    omega
end

end Go.Proofs.YtigbpdaomgagiaaGreat

/- The library's sort at [][][]int64 with the lattice's comparison. -/
namespace Go.Proofs.YtigbpdaomgagiaaGreat
open Go.Proofs Go.Shelf Go.RowKit Go.Lib Go.Sort
def Tryz.sortRows3_ren : Go.Shelf.Ren := ⟨fun | 6 => 139 | 15 => 196 | 14 => 195 | 28 => 236 | 29 => 237 | 20 => 228 | 21 => 229 | 22 => 230 | 23 => 231 | 24 => 232 | 25 => 233 | 26 => 234 | 27 => 235 | 46 => 248 | 47 => 249 | 48 => 250 | 49 => 251 | 50 => 252 | 57 => 262 | n => n, fun | 22 => 24 | 24 => 23 | 25 => 135 | 3 => 3 | 39 => 121 | 0 => 0 | 53 => 199 | 55 => 101 | 4 => 4 | 46 => 192 | 45 => 191 | 50 => 196 | 5 => 5 | 9 => 9 | 66 => 206 | 70 => 210 | 76 => 218 | 77 => 219 | n => n, fun | n => n⟩
theorem Tryz.sortRows3 : Go.Proofs.SlLaysF.n6 Tryz.prog Tryz.sortRows3_ren := {
  mixed := by kernel_rfl
  f6 := ⟨Tryz.f139.name, by decide, Tryz.func139.trans (congrArg some (by kernel_rfl))⟩
  f14 := ⟨Tryz.f195.name, by decide, Tryz.func195.trans (congrArg some (by kernel_rfl))⟩
  f15 := Tryz.func196.trans (congrArg some (by kernel_rfl))
  f20 := ⟨Tryz.f228.name, by decide, Tryz.func228.trans (congrArg some (by kernel_rfl))⟩
  f21 := ⟨Tryz.f229.name, by decide, Tryz.func229.trans (congrArg some (by kernel_rfl))⟩
  f22 := ⟨Tryz.f230.name, by decide, Tryz.func230.trans (congrArg some (by kernel_rfl))⟩
  f23 := ⟨Tryz.f231.name, by decide, Tryz.func231.trans (congrArg some (by kernel_rfl))⟩
  f24 := ⟨Tryz.f232.name, by decide, Tryz.func232.trans (congrArg some (by kernel_rfl))⟩
  f25 := ⟨Tryz.f233.name, by decide, Tryz.func233.trans (congrArg some (by kernel_rfl))⟩
  f26 := ⟨Tryz.f234.name, by decide, Tryz.func234.trans (congrArg some (by kernel_rfl))⟩
  f27 := ⟨Tryz.f235.name, by decide, Tryz.func235.trans (congrArg some (by kernel_rfl))⟩
  f28 := Tryz.func236.trans (congrArg some (by kernel_rfl))
  f29 := Tryz.func237.trans (congrArg some (by kernel_rfl))
  f46 := ⟨Tryz.f248.name, by decide, Tryz.func248.trans (congrArg some (by kernel_rfl))⟩
  f47 := Tryz.func249.trans (congrArg some (by kernel_rfl))
  f48 := Tryz.func250.trans (congrArg some (by kernel_rfl))
  f49 := ⟨Tryz.f251.name, by decide, Tryz.func251.trans (congrArg some (by kernel_rfl))⟩
  f50 := ⟨Tryz.f252.name, by decide, Tryz.func252.trans (congrArg some (by kernel_rfl))⟩
  f57 := ⟨Tryz.f262.name, by decide, Tryz.func262.trans (congrArg some (by kernel_rfl))⟩
  t0 := Tryz.underlying0
  a0 := Tryz.isAgg0
  z0 := Tryz.sizeOf0
  v0 := Tryz.zeroValue0
  t3 := Tryz.underlying3
  a3 := Tryz.isAgg3
  z3 := Tryz.sizeOf3
  v3 := Tryz.zeroValue3
  t4 := Tryz.underlying4
  a4 := Tryz.isAgg4
  z4 := Tryz.sizeOf4
  v4 := Tryz.zeroValue4
  t5 := Tryz.underlying5
  a5 := Tryz.isAgg5
  z5 := Tryz.sizeOf5
  v5 := Tryz.zeroValue5
  t9 := Tryz.underlying9
  a9 := Tryz.isAgg9
  z9 := Tryz.sizeOf9
  v9 := Tryz.zeroValue9
  t22 := Tryz.underlying24
  a22 := Tryz.isAgg24
  z22 := Tryz.sizeOf24
  v22 := Tryz.zeroValue24
  a24 := Tryz.isAgg23
  z24 := Tryz.sizeOf23
  t25 := Tryz.underlying135
  a25 := Tryz.isAgg135
  z25 := Tryz.sizeOf135
  v25 := Tryz.zeroValue135
  t39 := Tryz.underlying121
  a39 := Tryz.isAgg121
  z39 := Tryz.sizeOf121
  v39 := Tryz.zeroValue121
  t45 := Tryz.underlying191
  a45 := Tryz.isAgg191
  z45 := Tryz.sizeOf191
  v45 := Tryz.zeroValue191
  t46 := Tryz.underlying192
  a46 := Tryz.isAgg192
  z46 := Tryz.sizeOf192
  v46 := Tryz.zeroValue192
  t50 := Tryz.underlying196
  a50 := Tryz.isAgg196
  z50 := Tryz.sizeOf196
  v50 := Tryz.zeroValue196
  t53 := Tryz.underlying199
  a53 := Tryz.isAgg199
  z53 := Tryz.sizeOf199
  v53 := Tryz.zeroValue199
  t55 := Tryz.underlying101
  a55 := Tryz.isAgg101
  z55 := Tryz.sizeOf101
  v55 := Tryz.zeroValue101
  t66 := Tryz.underlying206
  a66 := Tryz.isAgg206
  z66 := Tryz.sizeOf206
  v66 := Tryz.zeroValue206
  t70 := Tryz.underlying210
  a70 := Tryz.isAgg210
  z70 := Tryz.sizeOf210
  v70 := Tryz.zeroValue210
  t76 := Tryz.underlying218
  a76 := Tryz.isAgg218
  z76 := Tryz.sizeOf218
  v76 := Tryz.zeroValue218
  t77 := Tryz.underlying219
  a77 := Tryz.isAgg219
  z77 := Tryz.sizeOf219
  v77 := Tryz.zeroValue219 }

theorem seqOk_nil (P : Pr) : SeqOk P [] := ⟨by simp, by simp⟩

theorem sortSubs_ok (P : Pr) (hP : Valid P) (w : World) (v : Value) (L : List (List (List Int))) (A : Nat → Prop) (B bx pb po : Nat) (hL : SlOA (fun F w u (x : List (List Int)) => RowsD F w u x) 23 B A w v L) (hne : 0 < L.length) (hlen : L.length ≤ 1000000)
    (hU : ∀ u ∈ L, SeqOk P u ∧ u.length ≤ 100) (hc : w.cell? ⟨bx, 0, none⟩ = some (.pointer (some ⟨pb, po, none⟩))) (hbx : v.ownBlock ≠ some bx) (hp : PresP (fun k => v.ownBlock ≠ some k) w (.pointer (some ⟨pb, po, none⟩)) P) :
    Calls Tryz.prog 139 #[v, .func (.func 140) #[] #[.pointer (some ⟨bx, 0, none⟩)]] w fun e w' => e = .returned (.tuple #[]) ∧
      ∃ L', SlOA (fun F w u (x : List (List Int)) => RowsD F w u x) 23 B A w' v L' ∧ L'.Perm L ∧ L'.Pairwise (fun x y => 0 ≤ cmpS P y x) ∧ w.grownBy w' v.ownBlock := by
  have eg : ∀ args w, (callFunc 140 args).run Tryz.prog w = .ok (.enter 140 args) w := enters_of Tryz.func140 (by kernel_rfl) rfl
  have h := sortG Tryz.sortRows3 rdRows 23 B (cmpS P) (swo_cmpS P) 140 #[.pointer (some ⟨bx, 0, none⟩)] eg w v L A hL hne hlen (fun W => (SlO.nil OwnIn 22 0 W).toD (by simp) |> fun h => rdRows.mono h (fun k hk hlt => ⟨trivial, hlt, rfl⟩)) (by
    intro W u1 u2 x y hg hx hy h1 h2
    have hp' : PresP Any W (.pointer (some ⟨pb, po, none⟩)) P := PresP.mono hp (frame_of hg (fun k hk _ => ⟨trivial, hk⟩))
    have hc' : W.cell? ⟨bx, 0, none⟩ = some (.pointer (some ⟨pb, po, none⟩)) := hg.cell hc (fun e => hbx e.symm)
    have hq : ∀ z, (z ∈ L ∨ z = default) → SeqOk P z ∧ z.length ≤ 100 := fun z hz => by
      rcases hz with hz | hz
      · exact hU z hz
      · rw [hz]; exact ⟨seqOk_nil P, by decide⟩
    refine (latCmp_ok P hP W bx pb po u1 u2 x y Any _ _ hc' hp' (RowsD.rows h1) (RowsD.rows h2) (hq x hx).1 (hq y hy).1 (hq x hx).2 (hq y hy).2).mono ?_
    rintro e w' ⟨v1, rfl, hg1, rfl, hd⟩
    exact ⟨rfl, hg1, hd⟩)
  exact h

end Go.Proofs.YtigbpdaomgagiaaGreat

/- The members that a mask tells, one after the other. -/
namespace Go.Proofs.YtigbpdaomgagiaaGreat
open Go.RowKit

def bitsTo (P : Pr) (m x : Nat) (y : List Int) : Prop := ∃ t, t < x ∧ m.testBit t = true ∧ y = elAt P (t : Int)

theorem bitsTo_zero (P : Pr) (m : Nat) : bitsTo P m 0 = fun _ => False :=
  funext fun y => propext ⟨fun ⟨t, h, _⟩ => by omega, fun h => h.elim⟩
theorem bitsTo_skip {P : Pr} {m x : Nat} (h : m.testBit x = false) : bitsTo P m (x + 1) = bitsTo P m x := by
  funext y
  refine propext ⟨fun ⟨t, h1, h2, h3⟩ => ?_, fun ⟨t, h1, h2, h3⟩ => ⟨t, by omega, h2, h3⟩⟩
  rcases Nat.lt_or_ge t x with h4 | h4
  · exact ⟨t, h4, h2, h3⟩
  · obtain rfl : t = x := by omega
    rw [h] at h2; cases h2
theorem bitsTo_add {P : Pr} {m x : Nat} (h : m.testBit x = true) : genP P (fun z => genP P (bitsTo P m x) z ∨ z ∈ [elAt P (x : Int)]) = genP P (bitsTo P m (x + 1)) := by
  rw [genP_or]
  congr 1
  funext z
  refine propext ⟨fun hz => ?_, fun ⟨t, h1, h2, h3⟩ => ?_⟩
  · rcases hz with ⟨t, h1, h2, h3⟩ | hz
    · exact ⟨t, by omega, h2, h3⟩
    · exact ⟨x, by omega, h, by simpa using hz⟩
  · rcases Nat.lt_or_ge t x with h4 | h4
    · exact .inl ⟨t, h4, h2, h3⟩
    · obtain rfl : t = x := by omega
      exact .inr (by simpa using h3)

section
variable {P : Pr} (G : Grp P)
include G
theorem Grp.bitsTo_all {H : List Int → Prop} (S : Sub P H) : genP P (bitsTo P (msk P H) (ordP P).toNat) = H := by
  have : bitsTo P (msk P H) (ordP P).toNat = H := funext fun y => propext ⟨fun ⟨t, h1, h2, h3⟩ => by
    rw [h3]; exact (msk_bit h1).1 h2, fun hy => by
    obtain ⟨h1, h2⟩ := G.num_lt (S.vec y hy)
    exact ⟨_, h1, (msk_bit h1).2 (by rw [h2]; exact hy), h2.symm⟩⟩
  rw [this]; exact genP_self S
end

end Go.Proofs.YtigbpdaomgagiaaGreat

/- The key tells the subgroup. -/
namespace Go.Proofs.YtigbpdaomgagiaaGreat
open Go.RowKit

theorem strOf_inj : ∀ {xs ys : List Int}, (∀ a ∈ xs, 0 ≤ a ∧ a < 256) → (∀ a ∈ ys, 0 ≤ a ∧ a < 256) → strOfNums xs = strOfNums ys → xs = ys := by
  intro xs ys hx hy h
  have h1 : xs.map (fun n => UInt8.ofNat n.toNat) = ys.map (fun n => UInt8.ofNat n.toNat) := by
    rw [← strOfNums_data, ← strOfNums_data, h]
  have key : ∀ {xs ys : List Int}, (∀ a ∈ xs, 0 ≤ a ∧ a < 256) → (∀ a ∈ ys, 0 ≤ a ∧ a < 256) → xs.map (fun n => UInt8.ofNat n.toNat) = ys.map (fun n => UInt8.ofNat n.toNat) → xs = ys := by
    intro xs
    induction xs with
    | nil => intro ys _ _ h; cases ys with
      | nil => rfl
      | cons => simp at h
    | cons x xs ih =>
      intro ys hx hy h
      cases ys with
      | nil => simp at h
      | cons y ys =>
        simp only [List.map_cons, List.cons.injEq] at h
        obtain ⟨a1, a2⟩ := hx x (List.mem_cons_self ..)
        obtain ⟨b1, b2⟩ := hy y (List.mem_cons_self ..)
        have he := congrArg UInt8.toNat h.1
        rw [UInt8.toNat_ofNat', UInt8.toNat_ofNat', Nat.mod_eq_of_lt (by omega), Nat.mod_eq_of_lt (by omega)] at he
        rw [show x = y by omega, ih (fun a ha => hx a (List.mem_cons_of_mem _ ha)) (fun a ha => hy a (List.mem_cons_of_mem _ ha)) h.2]
  exact key hx hy h1

theorem keyL_bytes {u : List (List Int)} (h : ∀ x ∈ u, ∀ e ∈ x, 0 ≤ e ∧ e < 256) : ∀ a ∈ keyL u, 0 ≤ a ∧ a < 256 := by
  intro a ha
  unfold keyL at ha
  obtain ⟨r, hr, har⟩ := List.mem_flatten.1 ha
  obtain ⟨x, hx, rfl⟩ := List.mem_map.1 hr
  rcases List.mem_append.1 har with h1 | h1
  · exact h x hx a h1
  · simp at h1; omega

theorem keyRow_inj {x y : List Int} (h : keyRow x = keyRow y) : x = y := List.append_cancel_right h

theorem keyS_inj {n : Nat} {u v : List (List Int)} (hu : ∀ x ∈ u, x.length = n ∧ ∀ e ∈ x, 0 ≤ e ∧ e < 256) (hv : ∀ x ∈ v, x.length = n ∧ ∀ e ∈ x, 0 ≤ e ∧ e < 256) (h : keyS u = keyS v) : u = v := by
  have h1 := strOf_inj (keyL_bytes fun x hx => (hu x hx).2) (keyL_bytes fun x hx => (hv x hx).2) h
  have h2 : u.map keyRow = v.map keyRow := flatten_inj (n := n + 1) (by omega)
    (fun r hr => by obtain ⟨x, hx, rfl⟩ := List.mem_map.1 hr; simp [keyRow, (hu x hx).1])
    (fun r hr => by obtain ⟨x, hx, rfl⟩ := List.mem_map.1 hr; simp [keyRow, (hv x hx).1]) h1
  have key : ∀ {u v : List (List Int)}, u.map keyRow = v.map keyRow → u = v := by
    intro u
    induction u with
    | nil => intro v h; cases v with
      | nil => rfl
      | cons => simp at h
    | cons x u ih =>
      intro v h
      cases v with
      | nil => simp at h
      | cons y v =>
        simp only [List.map_cons, List.cons.injEq] at h
        rw [keyRow_inj h.1, ih h.2]
  exact key h2

/-- rows of vectors are bytes -/
theorem vec_bytes {P : Pr} (hP : Valid P) {x : List Int} (hx : Vec P.orders x) : x.length = P.orders.length ∧ ∀ e ∈ x, 0 ≤ e ∧ e < 256 := by
  refine ⟨hx.1, fun e he => ?_⟩
  obtain ⟨i, hi, rfl⟩ := List.getElem_of_mem he
  have h1 := hx.2 i (by rw [← hx.1]; exact hi)
  rw [← gt_eq _ _ hi]
  have h2 := hP.ord7 i (by rw [← hx.1]; exact hi)
  omega

theorem subB_key {P : Pr} (hP : Valid P) {u v : List (List Int)} (hu : SubB P u) (hv : SubB P v) (h : keyS u = keyS v) : u = v :=
  keyS_inj (fun x hx => vec_bytes hP (hu.1 x hx)) (fun x hx => vec_bytes hP (hv.1 x hx)) h

end Go.Proofs.YtigbpdaomgagiaaGreat

/- impl.latticeOf. -/
namespace Go.Proofs.YtigbpdaomgagiaaGreat
open Go.RowKit

set_option linter.unusedSimpArgs false in
set_option maxRecDepth 100000 in
set_option maxHeartbeats 8000000 in
theorem latticeOf_ok (P : Pr) (w : World) (p : Value) (Sp : Nat → Prop) (hp : PresP Sp w p P) :
    Calls Tryz.prog 79 #[p] w (Ret w fun w' v => ∃ lp, v = .tuple #[.pointer lp, .int .i64 (latC P)] ∧ (latC P ≠ 0 → lp = none) ∧
      (latC P = 0 → ∃ lb L, lp = some ⟨lb, 0, none⟩ ∧ LatL P L ∧ LatAt w.heap.size P w' lb p L)) := by
  obtain ⟨pb, po, rfl⟩ := hp.shape
  obtain ⟨vo, vp, vc, _, _, hc0, hc1, hc2, h3⟩ := hp.at
  obtain ⟨ao, capo, rfl, _, _⟩ := h3.o.shape
  obtain ⟨ap, capp, rfl, _, _⟩ := Sl.shape h3.p
  obtain ⟨ac, capc, rfl, _, _⟩ := Sl.shape h3.c
  have hg0 : Ext w (w.alloc (.cells #[.pointer (some ⟨pb, po, none⟩)] 66)) := World.grownBy_alloc _ _ _
  have hbx : ∀ w', Ext (w.alloc (.cells #[.pointer (some ⟨pb, po, none⟩)] 66)) w' → w'.cell? ⟨w.heap.size, 0, none⟩ = some (.pointer (some ⟨pb, po, none⟩)) := fun w' h => h.cell (by rw [World.cell?_alloc_at _ _ _ _ rfl]; rfl) (by simp)
  have hs0 : (w.alloc (.cells #[.pointer (some ⟨pb, po, none⟩)] 66)).heap.size = w.heap.size + 1 := by simp
  have hcon := isConsistent_ok P _ (.agg #[.slice ao P.orders.length capo, .slice ap P.powers.length capp, .slice ac P.conj.length capc]) Sp ⟨_, _, _, rfl, h3.ext hg0⟩
  rw [icons_eq] at hcon
  have hp0 := hp.ext hg0
  have HB := Lib.hid (And.intro hbx (And.intro hs0 hp0)); clear hbx hs0 hp0
  go_enter Tryz.func79, Tryz.ntmps79
  go_wp2_with fail
  clear hc0 hc1 hc2 h3
  generalize hw0 : w.alloc (.cells #[.pointer (some ⟨pb, po, none⟩)] 66) = w0 at *
  clear hw0
  refine Calls.mono hcon ?_
  rintro e1 w1 ⟨v, rfl, hg1, rfl⟩
  clear hcon
  have hgw1 := grown_trans hg0 hg1
  cases hq : rconsB P with
  | false =>
    have HQ := Lib.hid hq; clear hq
    go_wp2
    have e : latC P = 1 := by unfold latC; rw [HQ.out]; rfl
    refine bodyPost_ret (v := .tuple #[.pointer none, .int .i64 1]) (by simp [results, Tryz.results79, go_sem]) rfl ?_
    exact ⟨_, rfl, hgw1, none, by rw [e], fun _ => rfl, fun h => by rw [e] at h; cases h⟩
  | true =>
    have G := grp_of_r hq
    have hP := G.v
    have hn6 := hP.n6
    have h729 : ordP P ≤ 729 := hP.le729
    have hpos := hP.ordP_pos
    have HQ := Lib.hid hq; clear hq
    have hb1 := HB.out.1 w1 hg1
    go_wp2_with fail
    clear hb1
    refine Calls.mono (orderOf_ok w1 _ P Sp hP (HB.out.2.2.ext hg1)) ?_
    rintro e2 w2 ⟨rfl, rfl⟩
    by_cases h32 : 32 < ordP P
    · have e : latC P = 3 := by unfold latC; rw [HQ.out, if_pos rfl, if_pos h32]
      have HE := Lib.hid e; clear e
      go_wp2
      refine bodyPost_ret (v := .tuple #[.pointer none, .int .i64 3]) (by simp [results, Tryz.results79, go_sem]) rfl ?_
      exact ⟨_, rfl, hgw1, none, by rw [HE.out], fun _ => rfl, fun h => by rw [HE.out] at h; cases h⟩
    · have hle : ordP P ≤ 32 := by omega
      have e : latC P = 0 := by unfold latC; rw [HQ.out, if_pos rfl, if_neg h32]
      have HC0 := Lib.hid e
      clear e
      have hb1 := HB.out.1 w1 hg1
      go_wp2_with fail
      clear hb1 h32
      refine Calls.mono (multiplicationTable_ok P G w1 _ Sp (HB.out.2.2.ext hg1)) ?_
      rintro e3 w2 ⟨tv, rfl, hg2, hT⟩
      obtain ⟨at', capt, rfl, _, _⟩ := Sl.shape hT
      obtain ⟨N, hN⟩ : ∃ N, N = (ordP P).toNat := ⟨_, rfl⟩
      have hN32 : N ≤ 32 := by omega
      have hlen : (tabL P).length = N := by rw [tabL_len, hN]
      have htN : Rows2 Any w2 (.slice at' N capt) (tabL P) := by rw [← hlen]; exact Rows2.sub hT (fun _ _ _ => trivial)
      rw [hlen]
      have hgw2 := grown_trans hgw1 hg2
      have hg02 := grown_trans hg1 hg2
      -- the list of masks and the map
      have hO0 : OwnV w2.heap.size 101 (w2.alloc (.cells #[.int .u64 1] 101)) (.slice (some ⟨w2.heap.size, 0, none⟩) 1 1) ([1].map uV) := World.ownsRow_lit w2 #[.int .u64 1] 1 (Nat.le_refl _) (by decide) rfl
      have hga : Ext w2 (w2.alloc (.cells #[.int .u64 1] 101)) := World.grownBy_alloc _ _ _
      have hsz : (w2.alloc (.cells #[.int .u64 1] 101)).heap.size = w2.heap.size + 1 := by simp
      have hMm := MapAt.made mapUB (w2.alloc (.cells #[.int .u64 1] 101))
      have hgb : Ext (w2.alloc (.cells #[.int .u64 1] 101)) ((w2.alloc (.cells #[.int .u64 1] 101)).alloc (.map #[] 0)) := World.grownBy_alloc _ _ _
      rw [hsz] at hMm
      obtain ⟨w3, hrun, hM3, hg3⟩ := hMm.update (1 : Nat) (show (1 : Nat) < 2 ^ 64 by decide) true trivial (by decide)
      have hO3 := (hO0.kept hgb (.inr (by simp [Value.ownBlock]))).kept hg3 (.inr (by simp [Value.ownBlock]))
      have hgw3 : Ext w2 w3 := grown_own (grown_trans hga hgb) hg3 (fun j hj hlt => by cases hj; omega)
      have hrun2 : (Instr.mapUpdate 128 (.map (some (w2.heap.size + 1))) (.int .u64 1) (.bool true)).run Tryz.prog ((w2.alloc (.cells #[.int .u64 1] 101)).alloc (.map #[] 0)) = .ok () w3 := hrun
      have hmk := makeUB (w2.alloc (.cells #[.int .u64 1] 101))
      rw [hsz] at hmk
      have hF0 : Fnd P [1] 0 0 := by have := G.fnd_start; rw [G.msk_one] at this; exact this
      have hM3' : MapAt mapUB w3 (w2.heap.size + 1) (fun a => decide (a ∈ [1])) 1 := hM3.congr (fun a => by by_cases h : a = 1 <;> simp [h, mapUB])
      have HF := Lib.hid (And.intro hF0 (And.intro hO3 (And.intro hM3' (And.intro hN hlen)))); clear hF0 hO3 hM3 hM3' hMm hO0 hT hrun hg3 hgb hga hsz
      clear hlen hN
      go_wp2
      --<A
      clear hmk hrun2
      go_loopw [5, 7] (fun mv iv wr => ∃ (M : List Nat) (i : Nat) (v5 : Value), v5 = mv ∧ iv = .int .i64 i ∧ i ≤ M.length ∧ Ext w2 wr ∧ OwnV w2.heap.size 101 wr v5 (M.map uV) ∧ MapAt mapUB wr (w2.heap.size + 1) (fun a => decide (a ∈ M)) M.length ∧ Hid (Fnd P M i 0)) (fun _ iv _ => 17409 - (intOf iv).toNat)
      case atStart => exact ⟨[1], 0, _, rfl, rfl, by simp, hgw3, HF.out.2.1, HF.out.2.2.1, Lib.hid HF.out.1⟩
      case round =>
        obtain ⟨M, i, v5, rfl, rfl, hi, hg, hO, hMp, hF⟩ := hrel
        have hlM := G.fnd_len hle hF.out
        have hMne : 0 < M.length := by
          have := hF.out.one
          cases M with
          | nil => cases this
          | cons => simp
        obtain ⟨g, cap, rfl⟩ := uV_shape hO hMne
        by_cases hlt : i < M.length
        · have hlt' : (i : Int) < M.length := by omega
          obtain ⟨H, SH, hmH⟩ := hF.out.sub _ (gt_mem hlt)
          obtain ⟨m, hm⟩ : ∃ m, m = gt M i := ⟨_, rfl⟩
          rw [← hm] at hmH
          have hm64 : m < 2 ^ 64 := by rw [hmH]; exact mask64 hle
          have HH := Lib.hid (And.intro SH hmH); clear SH hmH
          go_wp2
          go_loopw [5, 40] (fun mv xv wr => ∃ (M' : List Nat) (x : Nat) (v5 : Value), v5 = mv ∧ xv = .int .i64 x ∧ x ≤ N ∧ i < M'.length ∧ Ext w2 wr ∧ OwnV w2.heap.size 101 wr v5 (M'.map uV) ∧ MapAt mapUB wr (w2.heap.size + 1) (fun a => decide (a ∈ M')) M'.length ∧ Hid (Fnd P M' i x) ∧ Hid (gt M' i = m)) (fun _ xv _ => N - (intOf xv).toNat)
          case atStart => exact ⟨M, 0, _, rfl, rfl, by omega, hlt, hg, hO, hMp, hF, Lib.hid hm.symm⟩
          case round =>
            clear hg hO hMp hF hlM hMne hi hlt hlt' hm
            obtain ⟨M, x, v5, rfl, rfl, hx, hlt, hg, hO, hMp, hF, hm⟩ := hrel
            have hlt' : (i : Int) < M.length := by omega
            have hlM := G.fnd_len hle hF.out
            obtain ⟨g, cap, rfl⟩ := uV_shape hO (by omega)
            have hcm := uV_cell hO hlt
            rw [hm.out] at hcm
            by_cases hxN : x < N
            · have hxN' : (x : Int) < N := by omega
              have hxP : x < (ordP P).toNat := by have := HF.out.2.2.2.1; omega
              have hand := bit_and m x hm64
              cases hb : m.testBit x with
              | true =>
                rw [hb] at hand
                have hand : bits .and .u64 ((m : Int) / 2 ^ x) 1 = 1 := hand
                have hF2 := Lib.hid (fnd_bit hF.out hxP (by rw [hm.out]; exact hb))
                clear hF hb
                go_wp2
                clear hand hcm
                go_roundw
                case rel => exact ⟨M, x + 1, _, rfl, by go_num, by omega, hlt, hg, hO, hMp, hF2, hm⟩
                case measure => simp [intOf]; omega
              | false =>
                rw [hb] at hand
                have hand : bits .and .u64 ((m : Int) / 2 ^ x) 1 = 0 := hand
                have hext := extendMask_ok P G wr (.slice at' N capt) Any H HH.out.1 x hxP hle (Rows2.ext htN hg)
                rw [← HH.out.2] at hext
                obtain ⟨m2, hm2⟩ : ∃ m2, m2 = msk P (extP P H (elAt P x)) := ⟨_, rfl⟩
                rw [← hm2] at hext
                have hm264 : m2 < 2 ^ 64 := by rw [hm2]; exact mask64 hle
                have HM2 := Lib.hid hm2
                clear hm2 hb
                go_wp2_with fail
                clear hand hcm
                refine Calls.mono hext ?_
                rintro eA wA ⟨vA, rfl, hgA, rfl⟩
                clear hext
                have hgA2 := grown_trans hg hgA
                have hOA : OwnV w2.heap.size 101 wA _ (M.map uV) := hO.kept hgA (.inr (by simp [Value.ownBlock]))
                have hMA := hMp.ext hgA
                have hlook : (Instr.lookup 128 (.map (some (w2.heap.size + 1))) (.int .u64 (m2 : Int)) false).run Tryz.prog wA = .ok (.bool (decide (m2 ∈ M))) wA := hMA.look m2 hm264
                clear hO hMp
                by_cases hk : m2 ∈ M
                · rw [decide_eq_true hk] at hlook
                  have hF2 := Lib.hid (G.fnd_known (x := x) hF.out HH.out.1 (by rw [hm.out]; exact HH.out.2) (by rw [← HM2.out]; exact hk))
                  clear hF hk
                  go_wp2
                  clear hlook
                  go_roundw
                  case rel => exact ⟨M, x + 1, _, rfl, by go_num, by omega, hlt, hgA2, hOA, hMA, hF2, hm⟩
                  case measure => simp [intOf]; omega
                · rw [decide_eq_false hk] at hlook
                  have hF2 := G.fnd_new hF.out hlt HH.out.1 (by rw [hm.out]; exact HH.out.2) hxP (by rw [← HM2.out]; exact hk)
                  rw [← HM2.out] at hF2
                  have hm3 : gt (M ++ [m2]) i = m := by rw [gt_append_left _ _ _ hlt]; exact hm.out
                  have HF2 := Lib.hid (And.intro hF2 hm3)
                  obtain ⟨w4, hrun, hM4, hg4⟩ := hMA.update m2 hm264 true trivial (by omega)
                  have hrun2 : (Instr.mapUpdate 128 (.map (some (w2.heap.size + 1))) (.int .u64 (m2 : Int)) (.bool true)).run Tryz.prog wA = .ok () w4 := hrun
                  have hne := hMA.ne hOA
                  have hO4 : OwnV w2.heap.size 101 w4 _ (M.map uV) := hOA.kept hg4 (.inr (fun e => hne e.symm))
                  have hmbs := hMA.lt
                  have hgw4 : Ext w2 w4 := grown_own hgA2 hg4 (fun j hj hlt => by cases hj; omega)
                  have hM4' : MapAt mapUB w4 (w2.heap.size + 1) (fun a => decide (a ∈ M ++ [m2])) (M ++ [m2]).length := by
                    refine MapAt.le (hM4.congr (fun a => ?_)) (by simp)
                    by_cases h : a = m2 <;> simp [h]
                  have hap : (M ++ [m2]).map uV = M.map uV ++ [.int .u64 (m2 : Int)] := by rw [List.map_append]; rfl
                  have hxl : (M ++ [m2]).length = M.length + 1 := by simp
                  have hml : (M.map uV).length ≤ 1000000 := by rw [List.length_map]; omega
                  have HAP := Lib.hid (And.intro hap (And.intro hxl hml))
                  clear hF hF2 hm3 hrun hOA hMA hM4 hg4 hap hxl hml hk
                  go_wp2_with (first | (at_builtin; refine wp_app_v 87 101 (.int .u64 0) 8 und_u64s Tryz.infoU64 rfl (by decide) rfl _ _ rfl w2.heap.size w4 _ (.int .u64 (m2 : Int)) (M.map uV) rfl hO4 rfl rfl rfl HAP.out.2.2 hgw4.size ?_; intro v8 w8 hO8 hg8) | fail)
                  have hgw8 : Ext w2 w8 := grown_own hgw4 hg8 (fun b hb hlt => by have := (hO4.lt b hb).1; omega)
                  have hM8 := hM4'.kept hg8 hne
                  clear hlook hrun2
                  go_roundw
                  case rel => exact ⟨M ++ [m2], x + 1, v8, rfl, by go_num, by omega, by rw [HAP.out.2.1]; omega, hgw8, by rw [HAP.out.1]; exact hO8, hM8, Lib.hid HF2.out.1, Lib.hid HF2.out.2⟩
                  case measure => simp [intOf]; omega
            · have hxe : x = N := by omega
              have hF2 := Lib.hid (hF.out.next (by have := HF.out.2.2.2.1; omega))
              subst hxe
              clear hcm hF
              go_wp2
              go_roundw
              case rel => exact ⟨M, i + 1, _, rfl, by go_num, by omega, hg, hO, hMp, hF2⟩
              case measure => simp [intOf]; omega
        · have hie : i = M.length := by omega
          have hfl := G.fnd_list hF.out (by omega)
          have hfe : ∀ j, j < M.length → ∃ H, Sub P H ∧ gt M j = msk P H := fun j hj => hF.out.sub _ (gt_mem hj)
          obtain ⟨CS, hCS⟩ : ∃ CS, CS = M.map (fun m => cseq P (ofMask P m)) := ⟨_, rfl⟩
          have hCl : CS.length = M.length := by rw [hCS, List.length_map]
          have hCg : ∀ j, j < M.length → gt CS j = cseq P (ofMask P (gt M j)) := fun j hj => by rw [hCS]; exact gt_map _ _ _ hj
          rw [← hCS] at hfl
          have HFL := Lib.hid (And.intro hfl (And.intro hfe (And.intro hCl hCg))); clear hfl hfe hCl hCg hCS hF hMp
          have hE4 : Ext wr (wr.alloc (.cells #[.pointer (some ⟨pb, po, none⟩), .slice none 0 0, .slice none 0 0] 89)) := World.grownBy_alloc _ _ _
          have hX := Box3.made wr 89 (.pointer (some ⟨pb, po, none⟩)) (.slice none 0 0) (.slice none 0 0)
          have hs4 : (wr.alloc (.cells #[.pointer (some ⟨pb, po, none⟩), .slice none 0 0, .slice none 0 0] 89)).heap.size = wr.heap.size + 1 := by simp
          have hMs := MapAt.made mapSU (wr.alloc (.cells #[.pointer (some ⟨pb, po, none⟩), .slice none 0 0, .slice none 0 0] 89))
          have hmk := makeSU (wr.alloc (.cells #[.pointer (some ⟨pb, po, none⟩), .slice none 0 0, .slice none 0 0] 89))
          rw [hs4] at hMs hmk
          have hE5 : Ext (wr.alloc (.cells #[.pointer (some ⟨pb, po, none⟩), .slice none 0 0, .slice none 0 0] 89)) ((wr.alloc (.cells #[.pointer (some ⟨pb, po, none⟩), .slice none 0 0, .slice none 0 0] 89)).alloc (.map #[] 0)) := World.grownBy_alloc _ _ _
          have hX5 := hX.ext hE5
          have hE6 := grown_trans hE4 hE5
          obtain ⟨W5, hW5⟩ : ∃ W5, W5 = (wr.alloc (.cells #[.pointer (some ⟨pb, po, none⟩), .slice none 0 0, .slice none 0 0] 89)).alloc (.map #[] 0) := ⟨_, rfl⟩
          rw [← hW5] at hX5 hE6 hMs hmk
          obtain ⟨wM, hwM⟩ : ∃ wM : World, wM = wr := ⟨_, rfl⟩
          have hb1 := HB.out.1 wr (grown_trans hg02 hg)
          have H5 := Lib.hid (And.intro hX5 (And.intro hE6 hMs)); clear hX5 hE6 hMs hX hE4 hE5 hs4
          have hgM : Ext w0 wM := by rw [hwM]; exact grown_trans hg02 hg
          have hOM : OwnV w2.heap.size 101 wM (.slice (some ⟨g, 0, none⟩) M.length cap) (M.map uV) := by rw [hwM]; exact hO
          have htM : Rows2 Any wM (.slice at' N capt) (tabL P) := by rw [hwM]; exact Rows2.ext htN hg
          have hlti : ¬ (i : Int) < M.length := by omega
          clear hO hg hMne
          go_wp2
          clear hb1 hmk hi hlt hie hlti
          --<B
          rw [← hwM] at H5 hW5
          rw [← hwM, ← hW5]
          clear hW5 hwM
          go_loopw [75] (fun jv wr => ∃ (k : Nat) (lv : Value) (f : ByteArray → Nat), jv = .int .i64 k ∧ k ≤ M.length ∧ Ext wM wr ∧ Box3 wr wM.heap.size (.pointer (some ⟨pb, po, none⟩)) lv (.slice none 0 0) ∧
            SlOA (fun F w u (x : List (List Int)) => RowsD F w u x) 23 wM.heap.size (fun b => b = wM.heap.size ∨ b = wM.heap.size + 1) wr lv (CS.take k) ∧ MapAt mapSU wr (wM.heap.size + 1) f k ∧ Hid (∀ j, j < k → f (keyS (gt CS j)) = gt M j)) (fun jv _ => M.length - (intOf jv).toNat)
          case atStart => exact ⟨0, _, _, rfl, by omega, H5.out.2.1, H5.out.1, by rw [List.take_zero]; exact ⟨[], fun _ _ => False, rfl, World.ownsRow_nil _ _ _ _, by simp, by simp, by simp, by simp, by simp [Value.ownBlock]⟩, H5.out.2.2, Lib.hid (fun j hj => by omega)⟩
          case round =>
            clear H5
            obtain ⟨k, lv, f, rfl, hk, hg, hX, hL, hMp, hf⟩ := hrel
            have hg0r := grown_trans hgM hg
            by_cases hlt : k < M.length
            · have hlt' : (k : Int) < M.length := by omega
              obtain ⟨H, SH, hmH⟩ := HFL.out.2.1 k hlt
              have hcs := HFL.out.2.2.2 k hlt
              rw [hmH, G.ofMask_msk SH] at hcs
              have hcm := hg.cell (uV_cell hOM hlt) (by simp)
              obtain ⟨m, hm⟩ : ∃ m, m = gt M k := ⟨_, rfl⟩
              rw [← hm] at hcm hmH
              have hm64 : m < 2 ^ 64 := by rw [hmH]; exact mask64 hle
              have HH := Lib.hid (And.intro SH (And.intro hmH (And.intro hcs hm))); clear SH hmH hcs hm
              have hb1 := HB.out.1 wr hg0r
              have hpr := HB.out.2.2.ext hg0r
              have hxs := hX.1
              have hmbl := hMp.lt
              go_wp2_with fail
              clear hcm hb1
              refine Calls.mono (newSequence_ok P wr _ Sp (fun _ => False) hpr hn6) ?_
              rintro eS wS ⟨vS, rfl, hgS, sb, gb, rfl, hs⟩
              have hgb0 := hs.tab.lt
              have hsb0 := hs.sB
              have hI0 : Ind P (genP P (bitsTo P m 0)) (gt (List.replicate P.orders.length [])) := by rw [bitsTo_zero, G.genP_none]; exact G.ind_one
              have HI0 := Lib.hid hI0; clear hI0
              obtain ⟨wo, rfl⟩ : ∃ wo : World, wo = wr := ⟨_, rfl⟩
              go_wp2
              go_loopw [83] (fun xv wr => ∃ (x : Nat) (b : List (List Int)), xv = .int .i64 x ∧ x ≤ N ∧ wS.grownBy wr (some gb) ∧ SeqAt wo.heap.size (fun _ => False) wr sb gb (.pointer (some ⟨pb, po, none⟩)) P.orders.length b ∧ Hid (Ind P (genP P (bitsTo P m x)) (gt b))) (fun xv _ => N - (intOf xv).toNat)
              case atStart => exact ⟨0, _, rfl, by omega, grown_refl _ _, hs, HI0⟩
              case round =>
                clear hs HI0
                obtain ⟨x, b, rfl, hx, hgb, hs, hI⟩ := hrel
                have hgb0 := hs.tab.lt
                have hgr : Ext wo wr := grown_own hgS hgb (fun j hj hlt => by cases hj; omega)
                have hg0r' := grown_trans hg0r hgr
                by_cases hxN : x < N
                · have hxN' : (x : Int) < N := by omega
                  have hand := bit_and m x hm64
                  cases hb : m.testBit x with
                  | false =>
                    rw [hb] at hand
                    have hand : bits .and .u64 ((m : Int) / 2 ^ x) 1 = 0 := hand
                    have hI2 := hI.out
                    rw [← bitsTo_skip hb] at hI2
                    have HI2 := Lib.hid hI2; clear hI2 hb hI
                    go_wp2
                    clear hand
                    go_roundw
                    case rel => exact ⟨x + 1, b, by go_num, by omega, hgb, hs, HI2⟩
                    case measure => simp [intOf]; omega
                  | true =>
                    rw [hb] at hand
                    have hand : bits .and .u64 ((m : Int) / 2 ^ x) 1 = 1 := hand
                    have hb1 := HB.out.1 wr hg0r'
                    have hxV : Vec P.orders (elAt P (x : Int)) := G.elAtV (by have := HF.out.2.2.2.1; omega)
                    have hxl : (elAt P (x : Int)).length ≤ 6 := by rw [hxV.1]; exact hn6
                    have HXV := Lib.hid (And.intro hxV (And.intro hxl hb)); clear hxV hxl hb
                    go_wp2_with fail
                    clear hand hb1
                    refine Calls.mono (elementAt_ok P hP wr _ (x : Int) Sp (HB.out.2.2.ext hg0r') (by omega) (by omega)) ?_
                    rintro eY wY ⟨yv, rfl, hgY, hY⟩
                    have hYO : OwnIn (From wr.heap.size) wY yv (elAt P (x : Int)) := OwnIn.of hY (by have := HXV.out.2.1; omega) (fun j h1 _ => h1)
                    have hlit : RowsO wr.heap.size (wY.alloc (.cells #[yv] 22)) (.slice (some ⟨wY.heap.size, 0, none⟩) 1 1) [elAt P (x : Int)] := SlO.lit1 rdOwn hYO hgY.size
                    have hga : Ext wY (wY.alloc (.cells #[yv] 22)) := World.grownBy_alloc _ _ _
                    have hga2 := grown_trans hgY hga
                    have hs8 := hs.ext hga2
                    have hR8 : Rows2 (fun k => ¬ (k = gb ∨ k = sb)) (wY.alloc (.cells #[yv] 22)) (.slice (some ⟨wY.heap.size, 0, none⟩) 1 1) [elAt P (x : Int)] := Rows2.sub (RowsD.rows (hlit.toD (by simp))) (fun k hk _ => by
                      have h1 : wr.heap.size ≤ k := hk
                      have := hs.slt
                      omega)
                    obtain ⟨ya, yc, hyv, _, _⟩ := hYO.ints.shape
                    subst hyv
                    have hp8 : PresP (fun k => k ≠ gb) (wY.alloc (.cells #[.slice ya (elAt P (x : Int)).length yc] 22)) (.pointer (some ⟨pb, po, none⟩)) P := by
                      have h1 := HB.out.2.2.ext (grown_trans hg0r' hga2)
                      have h0 := hpr
                      exact h0.mono (fun k _ hlt => ⟨by omega, Nat.lt_of_lt_of_le hlt (grown_trans hgr hga2).size, (grown_trans hgr hga2).block k hlt (by simp)⟩)
                    have H8 := Lib.hid (And.intro hs8 (And.intro hR8 hp8)); clear hs8 hR8 hp8 hlit hYO hY
                    go_wp2_with fail
                    refine Calls.mono (add_ok P G _ sb gb wo.heap.size _ _ [elAt P (x : Int)] b _ H8.out.2.2 H8.out.1 hI.out (fun z hz => by rw [List.mem_singleton.1 hz]; exact HXV.out.1) H8.out.2.1 (by simp)) ?_
                    rintro eA wA ⟨b2, gg, rfl, hgA, hsA, hA, _, _⟩
                    rw [bitsTo_add HXV.out.2.2] at hA
                    have HA := Lib.hid hA; clear hA hI
                    have hgA2 : wS.grownBy wA (some gb) := grown_trans hgb (grown_trans (grown_of_ext _ hga2) hgA)
                    clear H8 hga hga2 hgA
                    go_wp2
                    go_roundw
                    case rel => exact ⟨x + 1, b2, by go_num, by omega, hgA2, hsA, HA⟩
                    case measure => simp [intOf]; omega
                · have hxe : x = N := by omega
                  have hI2 := hI.out
                  rw [hxe, HF.out.2.2.2.1, HH.out.2.1, G.bitsTo_all HH.out.1] at hI2
                  have HI2 := Lib.hid hI2; clear hI2 hI
                  subst hxe
                  go_wp2_with fail
                  refine Calls.mono (canonical_ok P G wr sb gb wo.heap.size _ b H Sp _ (HB.out.2.2.ext hg0r') hs HI2.out) ?_
                  rintro eC wC ⟨uv, rfl, hgC, hUC⟩
                  have hgoC := grown_trans hgr hgC
                  have hul := G.cseq_len HH.out.1
                  have huV : ∀ z ∈ cseq P H, Vec P.orders z := fun z hz => HH.out.1.vec z ((G.seq_facts HH.out.1).2.1 z hz)
                  obtain ⟨u, hu⟩ : ∃ u, u = cseq P H := ⟨_, rfl⟩
                  rw [← hu] at hUC hul huV
                  have hUD : RowsD (From wo.heap.size) wC uv u := rdRows.mono (hUC.toD (by omega)) (fun k hk hlt => ⟨Nat.le_trans hgr.size hk, hlt, rfl⟩)
                  obtain ⟨ua, uc, hvu, _, _⟩ := SlD.shape hUD
                  subst hvu
                  have hkl := keyL_len u 6 (fun z hz => by rw [(huV z hz).1]; exact hn6)
                  have hks := keyS_size u
                  have hsz : (keyS u).size ≤ maxLen := by unfold maxLen; have : (6 + 1) * u.length ≤ 100 := by omega
                                                          omega
                  have hkey := keyOf_ok u wC _ _ (RowsD.rows hUD) (fun z hz => (vec_bytes hP (huV z hz)).2) (fun z hz => by rw [(huV z hz).1]; omega) (by omega)
                  obtain ⟨s, hs'⟩ : ∃ s, s = keyS u := ⟨_, rfl⟩
                  rw [← hs'] at hsz hkey
                  have HU := Lib.hid (And.intro hu (And.intro huV (And.intro hs' hul))); clear hu huV hs' hkl hks hUC
                  go_wp2_with fail
                  refine Calls.mono hkey ?_
                  rintro eK wK ⟨kv, rfl, hgK, rfl⟩
                  clear hkey
                  have hgoK := grown_trans hgoC hgK
                  obtain ⟨wU, hrun, hMU, hgU⟩ := (hMp.ext hgoK).update s hsz m hm64 (by omega)
                  have hrun2 : (Instr.mapUpdate 130 (.map (some (wM.heap.size + 1))) (.string s) (.int .u64 (m : Int))).run Tryz.prog wK = .ok () wU := hrun
                  have hgoU : wo.grownBy wU (some (wM.heap.size + 1)) := grown_trans (grown_of_ext _ hgoK) hgU
                  have hXK := hX.ext hgoK
                  have hXU : Box3 wU wM.heap.size (.pointer (some ⟨pb, po, none⟩)) lv (.slice none 0 0) := hXK.keep hgU.size (hgU.block _ hXK.1 (by simp))
                  have hUU : RowsD (From wo.heap.size) wU (.slice ua u.length uc) u := rdRows.mono hUD (fun k hk hlt => ⟨hk, Nat.lt_of_lt_of_le hlt (Nat.le_trans hgK.size hgU.size), (hgU.block k (Nat.lt_of_lt_of_le hlt hgK.size) (by
                    have h1 : wo.heap.size ≤ k := hk
                    intro e; cases e; omega)).trans (hgK.block k hlt (by simp))⟩)
                  have hav := hL.avoids
                  have hctl : (CS.take k).length ≤ 1000000 := by rw [List.length_take]; omega
                  have hbo := hg.size
                  clear hrun hXK hUD hgU
                  obtain ⟨hx0, hx1, hx2, hx3, hx4⟩ := id hXU
                  obtain ⟨lva, lvn, lvc, hlv⟩ : ∃ a n c, lv = .slice a n c := by
                    obtain ⟨a, c, h, _⟩ := SlD.shape (hL.o.toD (by omega)); exact ⟨_, _, _, h⟩
                  subst hlv
                  go_wp2_with (first | (at_builtin; refine wp_app_oneA rdRows 24 23 (.slice none 0 0) 24 und_r3 Tryz.infoR3 rfl (by decide) rfl _ _ rfl wM.heap.size _ wo wU _ _ (CS.take k) u rfl hL (fun b hb => by rcases hb with rfl | rfl <;> omega) (some (wM.heap.size + 1)) hgoU (fun b hb => by cases hb; exact .inr rfl) hUU rfl rfl hctl hbo ?_; intro v8 w8 hL8 hg8; have hX8 := hXU.keep hg8.size (hg8.block _ hXU.1 (fun e => (hav _ e.symm).1 (.inl rfl))); obtain ⟨hy0, hy1, hy2, hy3, hy4⟩ := id hX8; obtain ⟨ca8, n8, cc8, hv8⟩ : ∃ a n c, v8 = .slice a n c := (by obtain ⟨a, c, h, _⟩ := SlD.shape (hL8.o.toD (by rw [List.length_append]; simp; omega)); exact ⟨_, _, _, h⟩); subst hv8) | fail)
                  clear hx1 hx2 hx3 hx4 hrun2
                  have hX9 := (hX8.put (.slice ca8 n8 cc8)).2.1
                  have hgp := grown_put w8 ⟨wM.heap.size, 1, none⟩ (.slice ca8 n8 cc8)
                  have hL9 := hL8.kept rdRows hgp (.inl rfl)
                  have hM9 := (hMU.kept hg8 (fun e => (hav _ e.symm).1 (.inr rfl))).kept hgp (by simp)
                  have hgwU : Ext wM wU := grown_own hg hgoU (fun b hb hlt => by cases hb; omega)
                  have hgw8 : Ext wM w8 := grown_own hgwU hg8 (fun b hb hlt => by have := (hav b hb).2.1; omega)
                  have hgw9 : Ext wM (w8.setCell ⟨wM.heap.size, 1, none⟩ (.slice ca8 n8 cc8)) := grown_own hgw8 hgp (fun b hb hlt => by have : wM.heap.size = b := (by simpa using hb); omega)
                  have hkC : k < CS.length := by rw [HFL.out.2.2.1]; exact hlt
                  have hcsk : CS.take (k + 1) = CS.take k ++ [u] := by rw [take_succ_gt _ k hkC, HH.out.2.2.1, HU.out.1]
                  have hnext : ∀ j, j < k + 1 → (if keyS (gt CS j) = s then m else f (keyS (gt CS j))) = gt M j := by
                    intro j hj
                    by_cases hjk : j = k
                    · subst hjk
                      rw [if_pos (by rw [HU.out.2.2.1, HH.out.2.2.1, HU.out.1]), HH.out.2.2.2]
                    · have hjl : j < k := by omega
                      rw [if_neg, hf.out j hjl]
                      intro he
                      rw [HU.out.2.2.1, HU.out.1, ← HH.out.2.2.1] at he
                      have h1 := subB_key hP ((HFL.out.1.2 _).1 (gt_mem (l := CS) (i := j) (by omega))) ((HFL.out.1.2 _).1 (gt_mem hkC)) he
                      exact hjk (gt_inj HFL.out.1.1 (by omega) hkC h1)
                  have HNX := Lib.hid hnext; clear hnext
                  have HK9 := Lib.hid (And.intro hX9 (And.intro hL9 (And.intro hM9 (And.intro hgw9 hcsk)))); clear hX9 hL9 hM9 hgw9 hcsk hgp hX8 hL8 hg8 hgoU hgwU hgw8 hUU hXU hMU
                  go_wp2
                  clear hy1 hy2 hy3 hy4
                  go_roundw
                  case rel => exact ⟨k + 1, _, _, by go_num, by omega, HK9.out.2.2.2.1, HK9.out.1, by rw [HK9.out.2.2.2.2]; exact HK9.out.2.1, HK9.out.2.2.1, HNX⟩
                  case measure => simp [intOf]; omega
            · have hke : k = M.length := by omega
              have hke0 := hke
              have htk : CS.take k = CS := List.take_of_length_le (by rw [HFL.out.2.2.1]; omega)
              rw [htk] at hL
              have hCn : 0 < CS.length := by
                have := (HFL.out.1.2 _).2 (G.subB_cseq G.sub_one)
                cases CS with
                | nil => cases this
                | cons => simp
              have hCl : CS.length ≤ 1000000 := by rw [HFL.out.2.2.1]; omega
              have hCU : ∀ u ∈ CS, SeqOk P u ∧ u.length ≤ 100 := fun u hu => by
                have h1 := (HFL.out.1.2 u).1 hu
                have h2 := (G.seq_facts (G.subB h1)).1
                rw [← h1.2] at h2
                have := G.sub_len h1
                exact ⟨h2, by omega⟩
              have hav := hL.avoids
              have hbM := hgM.size
              have hbw := HB.out.2.1
              have hlb : lv.ownBlock ≠ some w.heap.size := fun e => by have := (hav _ e).2.1; omega
              have hps : PresP (fun k => lv.ownBlock ≠ some k) wr (.pointer (some ⟨pb, po, none⟩)) P := HB.out.2.2.mono (fun k _ hlt => ⟨fun e => by have := (hav _ e).2.1; omega, Nat.lt_of_lt_of_le hlt hg0r.size, hg0r.block k hlt (by simp)⟩)
              have hsort := sortSubs_ok P hP wr lv CS _ wM.heap.size w.heap.size pb po hL hCn hCl hCU (HB.out.1 wr hg0r) hlb hps
              obtain ⟨hx0, hx1, hx2, hx3, hx4⟩ := id hX
              obtain ⟨lva, lvn, lvc, hlv⟩ : ∃ a n c, lv = .slice a n c := by
                obtain ⟨a, c, h, _⟩ := SlD.shape (hL.o.toD (by omega)); exact ⟨_, _, _, h⟩
              subst hlv
              have hnk : ¬ (k : Int) < M.length := by omega
              clear hps hlb hCU hCn htk hk
              go_wp2_with fail
              clear hx1 hx2 hx3 hx4 hlt hnk hke
              refine Calls.mono hsort ?_
              rintro eZ wZ ⟨rfl, L', hLZ, hperm, hsorted, hgZ⟩
              clear hsort
              have hLat := latL_of G hperm hsorted HFL.out.1.1 HFL.out.1.2
              have hLl : L'.length ≤ 1000000 := by rw [hperm.length_eq]; exact hCl
              have hgMZ : Ext wM wZ := grown_own hg hgZ (fun b hb hlt => by have := (hav b hb).2.1; omega)
              have hXZ := hX.keep hgZ.size (hgZ.block _ hX.1 (fun e => (hav _ e.symm).1 (.inl rfl)))
              have hMZ := hMp.kept hgZ (fun e => (hav _ e.symm).1 (.inr rfl))
              have hfv : ∀ u ∈ L', f (keyS u) = mskU P u := fun u hu => by
                have hu2 := hperm.mem_iff.1 hu
                obtain ⟨j, hj, rfl⟩ := mem_gt hu2
                rw [hf.out j (by rw [HFL.out.2.2.1] at hj; rw [hke0]; exact hj)]
                obtain ⟨H, SH, e⟩ := HFL.out.2.1 j (by rw [HFL.out.2.2.1] at hj; exact hj)
                rw [HFL.out.2.2.2 j (by rw [HFL.out.2.2.1] at hj; exact hj), e, G.ofMask_msk SH, G.mskU_cseq SH]
              have hln : lvn = L'.length := by
                obtain ⟨a, c, h, _⟩ := SlD.shape (hLZ.o.toD (by omega)); simp only [Value.slice.injEq] at h; exact h.2.1
              subst hln
              have HZ := Lib.hid (And.intro hLat (And.intro hfv (And.intro hLZ (And.intro hgMZ (And.intro hXZ hMZ))))); clear hLat hfv hperm hsorted hf hLZ hgMZ hMZ hMp hX hL hgZ hg hg0r hav
              obtain ⟨_, hy1, hy2, hy3, hy4⟩ := id hXZ
              go_wp2
              clear hy1 hy2 hy3 hy4 hXZ
              --<C
              go_loopw [126] (fun jv wr => ∃ (k : Nat) (mv : Value), jv = .int .i64 k ∧ k ≤ L'.length ∧ wZ.grownBy wr (some wM.heap.size) ∧ Box3 wr wM.heap.size (.pointer (some ⟨pb, po, none⟩)) (.slice lva L'.length lvc) mv ∧
                OwnV wZ.heap.size 101 wr mv ((L'.take k).map fun u => uV (mskU P u))) (fun jv _ => L'.length - (intOf jv).toNat)
              case atStart => exact ⟨0, _, rfl, by omega, grown_refl _ _, HZ.out.2.2.2.2.1, World.ownsRow_nil _ _ _ _⟩
              case round =>
                obtain ⟨k, mv, rfl, hk, hg, hX, hO⟩ := hrel
                have hLr := HZ.out.2.2.1.kept rdRows hg (.inl rfl)
                have hR3 := Rows3D.rows (hLr.o.toD (by omega))
                by_cases hlt : k < L'.length
                · have hlt' : (k : Int) < L'.length := by omega
                  obtain ⟨bL, oL, a2, cap2, rfl, _, _, hcu, hru⟩ := Rows3.at hR3 k hlt
                  have hbu := (HZ.out.1.2 _).1 (gt_mem hlt)
                  have hue := HZ.out.2.1 _ (gt_mem hlt)
                  obtain ⟨u, hu⟩ : ∃ u, u = gt L' k := ⟨_, rfl⟩
                  rw [← hu] at hbu hue hcu hru
                  have hul := G.sub_len hbu
                  have hkl := keyL_len u 6 (fun z hz => by rw [(hbu.1 z hz).1]; exact hn6)
                  have hks := keyS_size u
                  have hsz : (keyS u).size ≤ maxLen := by unfold maxLen; have : (6 + 1) * u.length ≤ 100 := by omega
                                                          omega
                  have hlook : ∀ w', wZ.grownBy w' (some wM.heap.size) → (Instr.lookup 130 (.map (some (wM.heap.size + 1))) (.string (keyS u)) false).run Tryz.prog w' = .ok (.int .u64 ((mskU P u : Nat) : Int)) w' := fun w' h => by
                    have := (HZ.out.2.2.2.2.2.kept h (by simp)).look (keyS u) hsz
                    rw [hue] at this; exact this
                  obtain ⟨q, hq⟩ : ∃ q, q = mskU P u := ⟨_, rfl⟩
                  rw [← hq] at hlook
                  have hkey := keyOf_ok u wr.drew (.slice a2 u.length cap2) _ (Rows2.ext hru (grown_drew _ _)) (fun z hz => (vec_bytes hP (hbu.1 z hz)).2) (fun z hz => by rw [(hbu.1 z hz).1]; omega) (by omega)
                  obtain ⟨s, hs⟩ : ∃ s, s = keyS u := ⟨_, rfl⟩
                  rw [← hs] at hlook hkey
                  have hapv : (L'.take (k + 1)).map (fun u => uV (mskU P u)) = (L'.take k).map (fun u => uV (mskU P u)) ++ [uV q] := by
                    rw [take_succ_gt L' k hlt, List.map_append, hq, hu]; rfl
                  have hml : ((L'.take k).map fun u => uV (mskU P u)).length ≤ 1000000 := by rw [List.length_map, List.length_take]; omega
                  obtain ⟨vs, hvs⟩ : ∃ vs, vs = (L'.take k).map fun u => uV (mskU P u) := ⟨_, rfl⟩
                  rw [← hvs] at hapv hml hO
                  have HU := Lib.hid (And.intro hbu (And.intro hu (And.intro hul (And.intro hq (And.intro hs (And.intro hapv (And.intro hml hvs))))))); clear hbu hue hu hul hkl hks hsz hq hs hapv hml hvs
                  obtain ⟨mva, mvn, mvc, hmv⟩ : ∃ a n c, mv = .slice a n c := by
                    rcases hO.form with ⟨h1, _⟩ | ⟨g, cp, h1, _⟩
                    · exact ⟨_, _, _, h1⟩
                    · exact ⟨_, _, _, h1⟩
                  subst hmv
                  obtain ⟨hy0, hy1, hy2, hy3, hy4⟩ := id hX
                  have hzs := hg.size
                  go_wp2
                  clear hcu hy1 hy2
                  refine wp_region_held_drew (S := fun w' => wZ.grownBy w' (some wM.heap.size)) (by kernel_rfl) (by first | exact grown_drew _ _ | exact grown_trans hg (grown_drew _ _) | assumption) (fun hHeld => ?_)
                  refine wpAnyH_take (i := 0) (v := ?v0_1) rfl (by kernel_rfl) (by kernel_rfl) (by kernel_rfl) (fun _ _ _ h => h) (Or.inl ⟨by rfl, ?hy0_1⟩) (by assumption) ?rest0_1
                  case hy0_1 => (intro w hSw; (try dsimp only at hSw); go_simp; try with_reducible rfl)
                  try simp only [Act.put, List.getElem_toArray, List.getElem_cons_succ, List.getElem_cons_zero, List.setIfInBounds_toArray, List.set_cons_zero, List.set_cons_succ]
                  refine wpAnyH_take (i := 1) (v := ?v1_2) rfl (by kernel_rfl) (by kernel_rfl) (by kernel_rfl) (fun _ _ _ h => h) (Or.inl ⟨by rfl, ?hy1_2⟩) (by assumption) ?rest1_2
                  case hy1_2 => (intro w hSw; (try dsimp only at hSw); go_simp; try with_reducible rfl)
                  try simp only [Act.put, List.getElem_toArray, List.getElem_cons_succ, List.getElem_cons_zero, List.setIfInBounds_toArray, List.set_cons_zero, List.set_cons_succ]
                  refine wpAnyH_take (i := 2) (v := ?v2_3) rfl (by kernel_rfl) (by kernel_rfl) (by kernel_rfl) (fun _ _ _ h => h) (Or.inl ⟨by rfl, ?hy2_3⟩) (by assumption) ?rest2_3
                  case hy2_3 => (intro w hSw; (try dsimp only at hSw); go_simp; try with_reducible rfl)
                  try simp only [Act.put, List.getElem_toArray, List.getElem_cons_succ, List.getElem_cons_zero, List.setIfInBounds_toArray, List.set_cons_zero, List.set_cons_succ]
                  refine wpAnyH_take (i := 3) (v := ?v3_4) rfl (by kernel_rfl) (by kernel_rfl) (by kernel_rfl) (fun _ _ _ h => h) (Or.inl ⟨by rfl, ?hy3_4⟩) (by assumption) ?rest3_4
                  case hy3_4 => (intro w hSw; (try dsimp only at hSw); go_simp; try with_reducible rfl)
                  try simp only [Act.put, List.getElem_toArray, List.getElem_cons_succ, List.getElem_cons_zero, List.setIfInBounds_toArray, List.set_cons_zero, List.set_cons_succ]
                  refine wpAnyH_take (i := 5) (v := ?v5_5) rfl (by kernel_rfl) (by kernel_rfl) (by kernel_rfl) (fun _ _ _ h => h) (Or.inl ⟨by rfl, ?hy5_5⟩) (by assumption) ?rest5_5
                  case hy5_5 => (intro w hSw; (try dsimp only at hSw); go_simp; try with_reducible rfl)
                  try simp only [Act.put, List.getElem_toArray, List.getElem_cons_succ, List.getElem_cons_zero, List.setIfInBounds_toArray, List.set_cons_zero, List.set_cons_succ]
                  refine wpAnyH_take (i := 6) (v := ?v6_6) rfl (by kernel_rfl) (by kernel_rfl) (by kernel_rfl) (fun _ _ _ h => h) (Or.inl ⟨by rfl, ?hy6_6⟩) (by assumption) ?rest6_6
                  case hy6_6 => (intro w hSw; (try dsimp only at hSw); go_simp; try with_reducible rfl)
                  try simp only [Act.put, List.getElem_toArray, List.getElem_cons_succ, List.getElem_cons_zero, List.setIfInBounds_toArray, List.set_cons_zero, List.set_cons_succ]
                  refine wpAnyH_ready (rs := [4, 7]) (by kernel_rfl) (by simp) ?_
                  refine AllReadyH.cons rfl (fun Kc hKc => ?_) (AllReadyH.cons rfl (fun Kc hKc => ?_) AllReadyH.nil)
                  · go_simp
                    refine hKc.out _ _ ?_ (fun hHeld => ?_)
                    · assumption
                    clear hKc Kc
                    try simp only [Act.put, List.getElem_toArray, List.getElem_cons_succ, List.getElem_cons_zero, List.setIfInBounds_toArray, List.set_cons_zero, List.set_cons_succ]
                    refine wpAnyH_ready (rs := [7]) (by kernel_rfl) (by simp) ?_
                    refine AllReadyH.cons rfl (fun Kc hKc => ?_) AllReadyH.nil
                    go_simp
                    go_at_call 138
                    refine Calls.mono hkey ?_
                    rintro eK wK ⟨kv, rfl, hgK, rfl⟩
                    have hgK2 : wZ.grownBy wK (some wM.heap.size) := grown_trans hg (grown_of_ext _ (grown_trans (grown_drew _ _) hgK))
                    have hXK : Box3 wK wM.heap.size (.pointer (some ⟨pb, po, none⟩)) (.slice (some ⟨bL, oL, none⟩) L'.length lvc) (.slice mva mvn mvc) := hX.ext (grown_trans (grown_drew _ _) hgK)
                    have hOK : OwnV wZ.heap.size 101 wK (.slice mva mvn mvc) vs := hO.kept (grown_trans (grown_drew _ _) hgK) (by cases hv : (Value.slice mva mvn mvc).ownBlock <;> simp)
                    obtain ⟨hz0, hz1, hz2, hz3, hz4⟩ := id hXK
                    go_wp2_with fail
                    refine hKc.out _ _ ?_ (fun hHeld => ?_)
                    · exact hgK2
                    clear hKc Kc
                    try simp only [Act.put, List.getElem_toArray, List.getElem_cons_succ, List.getElem_cons_zero, List.setIfInBounds_toArray, List.set_cons_zero, List.set_cons_succ]
                    refine wpAnyH_take (i := 8) (v := ?v8_7) rfl (by kernel_rfl) (by kernel_rfl) (by kernel_rfl) (fun _ _ _ h => h) (Or.inl ⟨by rfl, ?hy8_7⟩) (by assumption) ?rest8_7
                    case hy8_7 => (intro w hSw; (try dsimp only at hSw); go_simp; try with_reducible rfl)
                    try simp only [Act.put, List.getElem_toArray, List.getElem_cons_succ, List.getElem_cons_zero, List.setIfInBounds_toArray, List.set_cons_zero, List.set_cons_succ]
                    refine wpAnyH_ready (rs := [9]) (by kernel_rfl) (by simp) ?_
                    refine AllReadyH.cons rfl (fun Kc hKc => ?_) AllReadyH.nil
                    go_simp
                    refine hKc.out _ _ ?_ (fun hHeld => ?_)
                    · exact grown_trans hgK2 (grown_of_ext _ (World.grownBy_alloc _ _ _))
                    clear hKc Kc
                    try simp only [Act.put, List.getElem_toArray, List.getElem_cons_succ, List.getElem_cons_zero, List.setIfInBounds_toArray, List.set_cons_zero, List.set_cons_succ]
                    refine wpAnyH_ready (rs := [10]) (by kernel_rfl) (by simp) ?_
                    refine AllReadyH.cons rfl (fun Kc hKc => ?_) AllReadyH.nil
                    refine step_app_u rfl _ _ rfl wZ.heap.size (.slice mva mvn mvc) vs q rfl wK hOK rfl rfl HU.out.2.2.2.2.2.2.1 hgK2.size ?_
                    intro v8 w8 hO8 hg8
                    have hbk : ∀ b, (Value.slice mva mvn mvc).ownBlock = some b → wZ.heap.size ≤ b := fun b hb => (hOK.lt b hb).1
                    have hX8 := hXK.keep hg8.size (hg8.block _ hXK.1 (fun e => by have := hbk _ e.symm; omega))
                    have hgw8 : wZ.grownBy w8 (some wM.heap.size) := grown_own hgK2 hg8 (fun b hb hlt => by have := hbk b hb; omega)
                    obtain ⟨ja, jn, jc, hj8⟩ : ∃ a n c, v8 = .slice a n c := (by rcases hO8.form with ⟨h1, _⟩ | ⟨g, cp, h1, _⟩ <;> exact ⟨_, _, _, h1⟩)
                    subst hj8
                    have hX9 := (hX8.put (.slice ja jn jc)).2.2
                    have hgp := grown_put w8 ⟨wM.heap.size, 2, none⟩ (.slice ja jn jc)
                    have hne8 : (Value.slice ja jn jc).ownBlock = none ∨ (Value.slice ja jn jc).ownBlock ≠ some wM.heap.size := .inr (fun e => by have := (hO8.lt _ e).1; omega)
                    have hO9 := hO8.kept hgp hne8
                    rw [← HU.out.2.2.2.2.2.1] at hO9
                    have hgw9 := grown_trans hgw8 hgp
                    obtain ⟨hj0, hj1, hj2, hj3, hj4⟩ := id hX8
                    refine hKc.out _ _ ?_ (fun hHeld => ?_)
                    · exact hgw8
                    clear hKc Kc
                    try simp only [Act.put, List.getElem_toArray, List.getElem_cons_succ, List.getElem_cons_zero, List.setIfInBounds_toArray, List.set_cons_zero, List.set_cons_succ]
                    refine wpAnyH_take (i := 11) (v := ?v11_8) rfl (by kernel_rfl) (by kernel_rfl) (by kernel_rfl) (fun _ _ _ h => h) (Or.inl ⟨by rfl, ?hy11_8⟩) (by assumption) ?rest11_8
                    case hy11_8 => (intro w hSw; (try dsimp only at hSw); go_simp; try with_reducible rfl)
                    try simp only [Act.put, List.getElem_toArray, List.getElem_cons_succ, List.getElem_cons_zero, List.setIfInBounds_toArray, List.set_cons_zero, List.set_cons_succ]
                    refine wpAnyH_take (i := 12) (v := ?v12_9) rfl (by kernel_rfl) (by kernel_rfl) (by kernel_rfl) (fun _ _ _ h => h) (Or.inl ⟨by rfl, ?hy12_9⟩) (by assumption) ?rest12_9
                    case hy12_9 => (intro w hSw; (try dsimp only at hSw); go_simp; try with_reducible rfl)
                    try simp only [Act.put, List.getElem_toArray, List.getElem_cons_succ, List.getElem_cons_zero, List.setIfInBounds_toArray, List.set_cons_zero, List.set_cons_succ]
                    refine wpAnyH_ready (rs := [13]) (by kernel_rfl) (by simp) ?_
                    refine AllReadyH.cons rfl (fun Kc hKc => ?_) AllReadyH.nil
                    go_simp
                    refine hKc.out _ _ ?_ (fun hHeld => ?_)
                    · exact hgw9
                    clear hKc Kc
                    try simp only [Act.put, List.getElem_toArray, List.getElem_cons_succ, List.getElem_cons_zero, List.setIfInBounds_toArray, List.set_cons_zero, List.set_cons_succ]
                    refine wpAnyH_done (by kernel_rfl) ?_ _
                    clear hz1 hz2 hz3 hz4 hj1 hj2 hj3 hj4 hy3 hy4
                    go_wp2
                    go_roundw
                    case rel => exact ⟨k + 1, _, by go_num, by omega, hgw9, hX9, hO9⟩
                    case measure => simp [intOf]; omega
                  · go_simp
                    go_at_call 138
                    refine Calls.mono hkey ?_
                    rintro eK wK ⟨kv, rfl, hgK, rfl⟩
                    have hgK2 : wZ.grownBy wK (some wM.heap.size) := grown_trans hg (grown_of_ext _ (grown_trans (grown_drew _ _) hgK))
                    have hXK : Box3 wK wM.heap.size (.pointer (some ⟨pb, po, none⟩)) (.slice (some ⟨bL, oL, none⟩) L'.length lvc) (.slice mva mvn mvc) := hX.ext (grown_trans (grown_drew _ _) hgK)
                    have hOK : OwnV wZ.heap.size 101 wK (.slice mva mvn mvc) vs := hO.kept (grown_trans (grown_drew _ _) hgK) (by cases hv : (Value.slice mva mvn mvc).ownBlock <;> simp)
                    obtain ⟨hz0, hz1, hz2, hz3, hz4⟩ := id hXK
                    go_wp2_with fail
                    refine hKc.out _ _ ?_ (fun hHeld => ?_)
                    · exact hgK2
                    clear hKc Kc
                    try simp only [Act.put, List.getElem_toArray, List.getElem_cons_succ, List.getElem_cons_zero, List.setIfInBounds_toArray, List.set_cons_zero, List.set_cons_succ]
                    refine wpAnyH_take (i := 8) (v := ?v8_10) rfl (by kernel_rfl) (by kernel_rfl) (by kernel_rfl) (fun _ _ _ h => h) (Or.inl ⟨by rfl, ?hy8_10⟩) (by assumption) ?rest8_10
                    case hy8_10 => (intro w hSw; (try dsimp only at hSw); go_simp; try with_reducible rfl)
                    try simp only [Act.put, List.getElem_toArray, List.getElem_cons_succ, List.getElem_cons_zero, List.setIfInBounds_toArray, List.set_cons_zero, List.set_cons_succ]
                    refine wpAnyH_ready (rs := [4, 9]) (by kernel_rfl) (by simp) ?_
                    refine AllReadyH.cons rfl (fun Kc hKc => ?_) (AllReadyH.cons rfl (fun Kc hKc => ?_) AllReadyH.nil)
                    · go_simp
                      refine hKc.out _ _ ?_ (fun hHeld => ?_)
                      · assumption
                      clear hKc Kc
                      try simp only [Act.put, List.getElem_toArray, List.getElem_cons_succ, List.getElem_cons_zero, List.setIfInBounds_toArray, List.set_cons_zero, List.set_cons_succ]
                      refine wpAnyH_ready (rs := [9]) (by kernel_rfl) (by simp) ?_
                      refine AllReadyH.cons rfl (fun Kc hKc => ?_) AllReadyH.nil
                      go_simp
                      refine hKc.out _ _ ?_ (fun hHeld => ?_)
                      · exact grown_trans hgK2 (grown_of_ext _ (World.grownBy_alloc _ _ _))
                      clear hKc Kc
                      try simp only [Act.put, List.getElem_toArray, List.getElem_cons_succ, List.getElem_cons_zero, List.setIfInBounds_toArray, List.set_cons_zero, List.set_cons_succ]
                      refine wpAnyH_ready (rs := [10]) (by kernel_rfl) (by simp) ?_
                      refine AllReadyH.cons rfl (fun Kc hKc => ?_) AllReadyH.nil
                      refine step_app_u rfl _ _ rfl wZ.heap.size (.slice mva mvn mvc) vs q rfl wK hOK rfl rfl HU.out.2.2.2.2.2.2.1 hgK2.size ?_
                      intro v8 w8 hO8 hg8
                      have hbk : ∀ b, (Value.slice mva mvn mvc).ownBlock = some b → wZ.heap.size ≤ b := fun b hb => (hOK.lt b hb).1
                      have hX8 := hXK.keep hg8.size (hg8.block _ hXK.1 (fun e => by have := hbk _ e.symm; omega))
                      have hgw8 : wZ.grownBy w8 (some wM.heap.size) := grown_own hgK2 hg8 (fun b hb hlt => by have := hbk b hb; omega)
                      obtain ⟨ja, jn, jc, hj8⟩ : ∃ a n c, v8 = .slice a n c := (by rcases hO8.form with ⟨h1, _⟩ | ⟨g, cp, h1, _⟩ <;> exact ⟨_, _, _, h1⟩)
                      subst hj8
                      have hX9 := (hX8.put (.slice ja jn jc)).2.2
                      have hgp := grown_put w8 ⟨wM.heap.size, 2, none⟩ (.slice ja jn jc)
                      have hne8 : (Value.slice ja jn jc).ownBlock = none ∨ (Value.slice ja jn jc).ownBlock ≠ some wM.heap.size := .inr (fun e => by have := (hO8.lt _ e).1; omega)
                      have hO9 := hO8.kept hgp hne8
                      rw [← HU.out.2.2.2.2.2.1] at hO9
                      have hgw9 := grown_trans hgw8 hgp
                      obtain ⟨hj0, hj1, hj2, hj3, hj4⟩ := id hX8
                      refine hKc.out _ _ ?_ (fun hHeld => ?_)
                      · exact hgw8
                      clear hKc Kc
                      try simp only [Act.put, List.getElem_toArray, List.getElem_cons_succ, List.getElem_cons_zero, List.setIfInBounds_toArray, List.set_cons_zero, List.set_cons_succ]
                      refine wpAnyH_take (i := 11) (v := ?v11_11) rfl (by kernel_rfl) (by kernel_rfl) (by kernel_rfl) (fun _ _ _ h => h) (Or.inl ⟨by rfl, ?hy11_11⟩) (by assumption) ?rest11_11
                      case hy11_11 => (intro w hSw; (try dsimp only at hSw); go_simp; try with_reducible rfl)
                      try simp only [Act.put, List.getElem_toArray, List.getElem_cons_succ, List.getElem_cons_zero, List.setIfInBounds_toArray, List.set_cons_zero, List.set_cons_succ]
                      refine wpAnyH_take (i := 12) (v := ?v12_12) rfl (by kernel_rfl) (by kernel_rfl) (by kernel_rfl) (fun _ _ _ h => h) (Or.inl ⟨by rfl, ?hy12_12⟩) (by assumption) ?rest12_12
                      case hy12_12 => (intro w hSw; (try dsimp only at hSw); go_simp; try with_reducible rfl)
                      try simp only [Act.put, List.getElem_toArray, List.getElem_cons_succ, List.getElem_cons_zero, List.setIfInBounds_toArray, List.set_cons_zero, List.set_cons_succ]
                      refine wpAnyH_ready (rs := [13]) (by kernel_rfl) (by simp) ?_
                      refine AllReadyH.cons rfl (fun Kc hKc => ?_) AllReadyH.nil
                      go_simp
                      refine hKc.out _ _ ?_ (fun hHeld => ?_)
                      · exact hgw9
                      clear hKc Kc
                      try simp only [Act.put, List.getElem_toArray, List.getElem_cons_succ, List.getElem_cons_zero, List.setIfInBounds_toArray, List.set_cons_zero, List.set_cons_succ]
                      refine wpAnyH_done (by kernel_rfl) ?_ _
                      clear hz1 hz2 hz3 hz4 hj1 hj2 hj3 hj4 hy3 hy4
                      go_wp2
                      go_roundw
                      case rel => exact ⟨k + 1, _, by go_num, by omega, hgw9, hX9, hO9⟩
                      case measure => simp [intOf]; omega
                    · go_simp
                      refine hKc.out _ _ ?_ (fun hHeld => ?_)
                      · exact grown_trans hgK2 (grown_of_ext _ (World.grownBy_alloc _ _ _))
                      clear hKc Kc
                      try simp only [Act.put, List.getElem_toArray, List.getElem_cons_succ, List.getElem_cons_zero, List.setIfInBounds_toArray, List.set_cons_zero, List.set_cons_succ]
                      refine wpAnyH_ready (rs := [4]) (by kernel_rfl) (by simp) ?_
                      refine AllReadyH.cons rfl (fun Kc hKc => ?_) AllReadyH.nil
                      go_simp
                      refine hKc.out _ _ ?_ (fun hHeld => ?_)
                      · assumption
                      clear hKc Kc
                      try simp only [Act.put, List.getElem_toArray, List.getElem_cons_succ, List.getElem_cons_zero, List.setIfInBounds_toArray, List.set_cons_zero, List.set_cons_succ]
                      refine wpAnyH_ready (rs := [10]) (by kernel_rfl) (by simp) ?_
                      refine AllReadyH.cons rfl (fun Kc hKc => ?_) AllReadyH.nil
                      refine step_app_u rfl _ _ rfl wZ.heap.size (.slice mva mvn mvc) vs q rfl wK hOK rfl rfl HU.out.2.2.2.2.2.2.1 hgK2.size ?_
                      intro v8 w8 hO8 hg8
                      have hbk : ∀ b, (Value.slice mva mvn mvc).ownBlock = some b → wZ.heap.size ≤ b := fun b hb => (hOK.lt b hb).1
                      have hX8 := hXK.keep hg8.size (hg8.block _ hXK.1 (fun e => by have := hbk _ e.symm; omega))
                      have hgw8 : wZ.grownBy w8 (some wM.heap.size) := grown_own hgK2 hg8 (fun b hb hlt => by have := hbk b hb; omega)
                      obtain ⟨ja, jn, jc, hj8⟩ : ∃ a n c, v8 = .slice a n c := (by rcases hO8.form with ⟨h1, _⟩ | ⟨g, cp, h1, _⟩ <;> exact ⟨_, _, _, h1⟩)
                      subst hj8
                      have hX9 := (hX8.put (.slice ja jn jc)).2.2
                      have hgp := grown_put w8 ⟨wM.heap.size, 2, none⟩ (.slice ja jn jc)
                      have hne8 : (Value.slice ja jn jc).ownBlock = none ∨ (Value.slice ja jn jc).ownBlock ≠ some wM.heap.size := .inr (fun e => by have := (hO8.lt _ e).1; omega)
                      have hO9 := hO8.kept hgp hne8
                      rw [← HU.out.2.2.2.2.2.1] at hO9
                      have hgw9 := grown_trans hgw8 hgp
                      obtain ⟨hj0, hj1, hj2, hj3, hj4⟩ := id hX8
                      refine hKc.out _ _ ?_ (fun hHeld => ?_)
                      · exact hgw8
                      clear hKc Kc
                      try simp only [Act.put, List.getElem_toArray, List.getElem_cons_succ, List.getElem_cons_zero, List.setIfInBounds_toArray, List.set_cons_zero, List.set_cons_succ]
                      refine wpAnyH_take (i := 11) (v := ?v11_13) rfl (by kernel_rfl) (by kernel_rfl) (by kernel_rfl) (fun _ _ _ h => h) (Or.inl ⟨by rfl, ?hy11_13⟩) (by assumption) ?rest11_13
                      case hy11_13 => (intro w hSw; (try dsimp only at hSw); go_simp; try with_reducible rfl)
                      try simp only [Act.put, List.getElem_toArray, List.getElem_cons_succ, List.getElem_cons_zero, List.setIfInBounds_toArray, List.set_cons_zero, List.set_cons_succ]
                      refine wpAnyH_take (i := 12) (v := ?v12_14) rfl (by kernel_rfl) (by kernel_rfl) (by kernel_rfl) (fun _ _ _ h => h) (Or.inl ⟨by rfl, ?hy12_14⟩) (by assumption) ?rest12_14
                      case hy12_14 => (intro w hSw; (try dsimp only at hSw); go_simp; try with_reducible rfl)
                      try simp only [Act.put, List.getElem_toArray, List.getElem_cons_succ, List.getElem_cons_zero, List.setIfInBounds_toArray, List.set_cons_zero, List.set_cons_succ]
                      refine wpAnyH_ready (rs := [13]) (by kernel_rfl) (by simp) ?_
                      refine AllReadyH.cons rfl (fun Kc hKc => ?_) AllReadyH.nil
                      go_simp
                      refine hKc.out _ _ ?_ (fun hHeld => ?_)
                      · exact hgw9
                      clear hKc Kc
                      try simp only [Act.put, List.getElem_toArray, List.getElem_cons_succ, List.getElem_cons_zero, List.setIfInBounds_toArray, List.set_cons_zero, List.set_cons_succ]
                      refine wpAnyH_done (by kernel_rfl) ?_ _
                      clear hz1 hz2 hz3 hz4 hj1 hj2 hj3 hj4 hy3 hy4
                      go_wp2
                      go_roundw
                      case rel => exact ⟨k + 1, _, by go_num, by omega, hgw9, hX9, hO9⟩
                      case measure => simp [intOf]; omega
                · have hke : k = L'.length := by omega
                  have hOf : OwnV w.heap.size 101 wr mv (L'.map fun u => uV (mskU P u)) := by
                    rw [List.take_of_length_le (by omega)] at hO
                    exact OwnV.weak hO (by have := hbM; have := hbw; have := HZ.out.2.2.2.1.size; omega)
                  have hgMr : Ext wM wr := grown_own HZ.out.2.2.2.1 hg (fun b hb hlt => by cases hb; omega)
                  have hfin : LatAt w.heap.size P wr wM.heap.size (.pointer (some ⟨pb, po, none⟩)) L' := ⟨by omega, _, _, hX, hLr.o.weak (by omega), hOf⟩
                  have HFN := Lib.hid (And.intro hfin (grown_trans hg0 (grown_trans hgM hgMr)))
                  have hnl : ¬ (k : Int) < L'.length := by omega
                  clear hfin hgMr hOf hO hLr hR3 hX hg hke hlt hk
                  go_wp2
                  refine bodyPost_ret (v := .tuple #[.pointer (some ⟨wM.heap.size, 0, none⟩), .int .i64 0]) (by simp [results, Tryz.results79, go_sem]) rfl ?_
                  exact ⟨_, rfl, HFN.out.2, some ⟨wM.heap.size, 0, none⟩, by rw [HC0.out], fun h => absurd HC0.out h, fun _ => by first | exact ⟨wM.heap.size, L', rfl, HZ.out.1, HFN.out.1⟩ | exact ⟨wM.heap.size, rfl, L', HZ.out.1, HFN.out.1⟩⟩
              -->C
          -->B
      -->A

end Go.Proofs.YtigbpdaomgagiaaGreat

/- AllSubgroups on both sides. -/
namespace Go.Proofs.YtigbpdaomgagiaaGreat
open Go.RowKit

open Classical in
noncomputable def allL (P : Pr) : List (List (List Int)) := if latC P = 0 ∧ ∃ L, LatL P L then latL P else []
theorem allL_ok {P : Pr} {L : List (List (List Int))} (h : latC P = 0) (hL : LatL P L) : allL P = L := by
  unfold allL; rw [if_pos ⟨h, L, hL⟩, latL_eq hL]
theorem allL_no {P : Pr} (h : latC P ≠ 0) : allL P = [] := by unfold allL; rw [if_neg (fun hh => h hh.1)]
theorem allL_bd (P : Pr) : (allL P).length ≤ 17408 ∧ ∀ u ∈ allL P, u.length ≤ 6 ∧ ∀ x ∈ u, x.length ≤ 6 := by
  by_cases h : latC P = 0 ∧ ∃ L, LatL P L
  · obtain ⟨hc, L, hL⟩ := h
    have G := grp_of_r (latC_zero hc).1
    rw [allL_ok hc hL]
    exact ⟨G.lat_len (latC_zero hc).2 hL, G.lat_row hL⟩
  · unfold allL; rw [if_neg h]; simp
theorem allL_len (P : Pr) : (allL P).length ≤ 17408 := (allL_bd P).1
theorem allL_tot (P : Pr) : tot3 (allL P) ≤ 100000000 := part_tot (allL_bd P).1 (allL_bd P).2

set_option maxRecDepth 100000 in
set_option maxHeartbeats 2000000 in
theorem iAll_ok (P : Pr) (w : World) (pv : Value) (Sp : Nat → Prop) (hpv : PresV Sp w pv P) :
    Calls Tryz.prog 26 #[pv] w (Ret w fun w' v => ∃ a n c, v = .tuple #[.slice a n c, .int .i64 (latC P)] ∧ SlO (fun F w u (x : List (List Int)) => RowsD F w u x) 23 w.heap.size w' (.slice a n c) (allL P)) := by
  obtain ⟨vo, vp, vc, rfl, h3⟩ := hpv
  have hp0 := PresP.box h3 31
  have hg0 : Ext w (w.alloc (.cells #[vo, vp, vc] 31)) := World.grownBy_alloc _ _ _
  have hlat := latticeOf_ok P _ _ Any hp0
  go_enter Tryz.func26, Tryz.ntmps26
  go_wp2_with fail
  generalize hw0 : w.alloc (.cells #[vo, vp, vc] 31) = w0 at *
  clear hw0
  refine Calls.mono hlat ?_
  rintro e1 w1 ⟨v1, rfl, hg1, lp, rfl, hno, hyes⟩
  clear hlat
  have hgw1 := grown_trans hg0 hg1
  by_cases hz : latC P = 0
  · obtain ⟨lb, L, rfl, hL, hA⟩ := hyes hz
    obtain ⟨hlo, lv, mv, hX, hO, hM⟩ := hA
    have hall := allL_ok hz hL
    have hln := allL_len P
    rw [hall] at hln
    obtain ⟨la, lc, hlv, _, _⟩ := SlD.shape (hO.toD (by omega))
    subst hlv
    obtain ⟨c, hc⟩ : ∃ c, c = latC P := ⟨_, rfl⟩
    have hc0 : c = 0 := by rw [hc]; exact hz
    rw [← hc]
    have HC := Lib.hid (And.intro hc (And.intro hall (And.intro hO hL))); clear hc hall hO hL hM hno hyes hz
    subst hc0
    obtain ⟨hx0, hx1, hx2, hx3, hx4⟩ := id hX
    go_wp2
    clear hx1 hx2 hx3 hx4
    go_ret2
    exact ⟨_, rfl, hgw1, _, _, _, by rw [← HC.out.1]; rfl, by rw [HC.out.2.1]; exact HC.out.2.2.1.weak hg0.size⟩
  · have hlp := hno hz
    subst hlp
    have hall := allL_no hz
    obtain ⟨c, hc⟩ : ∃ c, c = latC P := ⟨_, rfl⟩
    rw [← hc] at hz ⊢
    have hne : (c != 0) = true := by simpa using hz
    have HC := Lib.hid (And.intro hc hall); clear hc hall hno hyes
    go_wp2
    go_ret2
    exact ⟨_, rfl, hgw1, none, 0, 0, by rw [← HC.out.1]; rfl, by rw [HC.out.2]; exact SlO.nil _ _ _ _⟩

set_option maxRecDepth 100000 in
set_option maxHeartbeats 2000000 in
theorem sAll_ok (P : Pr) (w : World) (pv : Value) (Sp : Nat → Prop) (hpv : PresV Sp w pv P) :
    Calls Tryz.prog 25 #[pv] w (Ret w fun w' v => ∃ a n c, v = .tuple #[.slice a n c, .int .i64 (latC P)] ∧ Rows3 Any w' (.slice a n c) (allL P)) := by
  obtain ⟨vo, vp, vc, rfl, h3⟩ := hpv
  have hp0 := PresP.box h3 31
  have hg0 : Ext w (w.alloc (.cells #[vo, vp, vc] 31)) := World.grownBy_alloc _ _ _
  obtain ⟨vo6, vp6, vc6, _, _, hc0, hc1, hc2, h36⟩ := hp0.at
  simp only [Nat.zero_add] at hc1 hc2
  have hbx : ∀ w', Ext (w.alloc (.cells #[vo, vp, vc] 31)) w' → w'.cell? ⟨w.heap.size, 0, none⟩ = some vo6 ∧ w'.cell? ⟨w.heap.size, 1, none⟩ = some vp6 ∧ w'.cell? ⟨w.heap.size, 2, none⟩ = some vc6 := fun w' h => ⟨h.cell hc0 (by simp), h.cell hc1 (by simp), h.cell hc2 (by simp)⟩
  have HB := Lib.hid hbx; clear hbx hp0
  have hcd := l19Code_ok P _ (.agg #[vo6, vp6, vc6]) Any ⟨_, _, _, rfl, h36⟩
  go_enter Tryz.func25, Tryz.ntmps25
  go_wp2_with fail
  clear hc0 hc1 hc2
  generalize hw0 : w.alloc (.cells #[vo, vp, vc] 31) = w0 at *
  clear hw0
  refine Calls.mono hcd ?_
  rintro e1 w1 ⟨v1, rfl, hg1, rfl⟩
  clear hcd
  obtain ⟨c, hc⟩ : ∃ c, c = latC P := ⟨_, rfl⟩
  rw [← hc]
  have HC := Lib.hid hc
  by_cases hz : latC P = 0
  · have G := grp_of_r (latC_zero hz).1
    have h32 := (latC_zero hz).2
    have hc0' : c = 0 := by rw [hc]; exact hz
    have HZ := Lib.hid hz; clear hc hz
    subst hc0'
    obtain ⟨hc0, hc1, hc2⟩ := HB.out w1 hg1
    go_wp2_with fail
    clear hc0 hc1 hc2
    refine Calls.mono (l19All_ok P G w1 _ Any h32 ⟨_, _, _, rfl, Pres3.ext h36 hg1⟩) ?_
    rintro e2 w2 ⟨v2, rfl, hg2, hL, hR⟩
    have hall := allL_ok HZ.out hL
    have hlen := G.lat_len h32 hL
    obtain ⟨L, hLd⟩ : ∃ L, L = latL P := ⟨_, rfl⟩
    rw [← hLd] at hR hL hall hlen
    obtain ⟨la, lc, hlv, _, _⟩ := Sl.shape hR
    subst hlv
    have HL := Lib.hid (And.intro hL hall); clear hL hall hLd
    go_wp2_with fail
    refine Calls.mono (l19Own_ok w2 _ L _ hR (G.lat_row HL.out.1) (by omega)) ?_
    rintro e3 w3 ⟨v3, rfl, hg3, hO⟩
    have hD := hO.toD (by omega)
    obtain ⟨ra, rc, hrv, _, _⟩ := SlD.shape hD
    subst hrv
    have hR3 := Rows3D.rows hD
    have HR := Lib.hid hR3; clear hR3 hD hO
    go_wp2
    go_ret2
    exact ⟨_, rfl, grown_trans hg0 (grown_trans hg1 (grown_trans hg2 hg3)), _, _, _, by rw [← HC.out]; rfl, by rw [HL.out.2]; exact Rows3.sub HR.out (fun _ _ _ => trivial)⟩
  · have hall := allL_no hz
    rw [← hc] at hz
    have hne : (c != 0) = true := by simpa using hz
    have HA := Lib.hid hall; clear hall hc
    go_wp2
    go_ret2
    exact ⟨_, rfl, grown_trans hg0 hg1, none, 0, 0, by rw [← HC.out]; rfl, by rw [HA.out]; exact ⟨none, 0, rfl, ⟨by simp, by simp, fun _ => rfl⟩, fun i hi => by simp at hi⟩⟩

end Go.Proofs.YtigbpdaomgagiaaGreat

/- The laws' look at marked rows of rows: laws.heldInt64SS, heldInt64SSS. -/
namespace Go.Proofs.YtigbpdaomgagiaaGreat
open Go.RowKit

set_option maxHeartbeats 1000000 in
theorem heldInt64SS_ok (v : Value) (xs : List (List Int)) (q : Int) (w : World) (S : Nat → Prop) (h : Rows2 S w v (up2 q xs)) (hq0 : 0 ≤ q ∧ q + tot2 xs ≤ 1000000000) :
    Calls Tryz.prog 51 #[v, .int .i64 q] w (Ret w fun _ r => r = .int .i64 (q + tot2 xs)) := by
  have hq : 0 ≤ q ∧ q + szTo List.length xs xs.length ≤ 1000000000 := hq0
  clear hq0
  obtain ⟨a, cap, rfl, hcap, hmax⟩ := Sl.shape h
  have hul : (up2 q xs).length = xs.length := mixTo_len _ _ _ _ _
  rw [hul] at h hmax ⊢
  have HU := Lib.hid hul; clear hul
  go_enter Tryz.func51, Tryz.ntmps51
  go_wp2
  go_loopw [1, 5] (fun qv iv wr => ∃ k : Nat, iv = .int .i64 k ∧ qv = .int .i64 (q + szTo List.length xs k) ∧ k ≤ xs.length ∧ Ext w wr) (fun _ iv _ => xs.length - (intOf iv).toNat)
  case atStart => exact ⟨0, rfl, by simp [szTo], by omega, Ext.refl _⟩
  case round =>
    obtain ⟨k, rfl, rfl, hk, hg⟩ := hrel
    by_cases hlt : k < xs.length
    · obtain ⟨b, off, a2, cap2, rfl, _, _, hc2, hi2⟩ := Rows2.at (Rows2.ext h hg) k (by rw [HU.out]; exact hlt)
      have hgu : gt (up2 q xs) k = up1 (q + szTo List.length xs k) (gt xs k) := by
        unfold up2; rw [gt_mixTo _ _ _ _ _ _ hlt, if_pos hlt]
      have hm := szTo_mono List.length xs (show k + 1 ≤ xs.length by omega)
      have hst : szTo List.length xs (k + 1) = szTo List.length xs k + List.length (gt xs k) := rfl
      have hqk : 0 ≤ q + (szTo List.length xs k : Nat) ∧ q + (szTo List.length xs k : Nat) + (List.length (gt xs k) : Nat) ≤ 1000000000 := by omega
      have h0 : 0 ≤ q + (szTo List.length xs k : Nat) + (List.length (gt xs k) : Nat) := by omega
      have h1 : ¬ (q + (szTo List.length xs k : Nat) + (List.length (gt xs k) : Nat) < 0) := by omega
      have hi3 : Ints S wr (.slice a2 (gt (up2 q xs) k).length cap2) (up1 (q + szTo List.length xs k) (gt xs k)) := by rw [← hgu]; exact hi2
      have HQ := Lib.hid (And.intro hqk (And.intro hm hst)); clear hqk hm hst hi2 hgu
      generalize (gt (up2 q xs) k).length = m2 at *
      go_wp2_with fail
      refine Calls.mono (heldInt64S_ok _ ((gt xs k).length) (q + (szTo List.length xs k : Nat)) wr S hi3 HQ.out.1) ?_
      rintro eA wA ⟨vA, rfl, hgA, rfl⟩
      clear hc2 hi3
      go_wp2
      go_roundw
      case rel => exact ⟨k + 1, by go_num, by simp [szTo]; omega, by omega, grown_trans hg hgA⟩
      case measure => simp [intOf]; omega
    · have hke : k = xs.length := by omega
      subst hke
      go_wp2
      go_ret
      exact ⟨_, rfl, hg, rfl⟩

end Go.Proofs.YtigbpdaomgagiaaGreat

/- The laws' look at marked rows of rows: laws.heldInt64SS, heldInt64SSS. -/
namespace Go.Proofs.YtigbpdaomgagiaaGreat
open Go.RowKit

set_option maxHeartbeats 1000000 in
theorem heldInt64SSS_ok (v : Value) (xs : List (List (List Int))) (q : Int) (w : World) (S : Nat → Prop) (h : Rows3 S w v (up3 q xs)) (hq0 : 0 ≤ q ∧ q + tot3 xs ≤ 1000000000) :
    Calls Tryz.prog 29 #[v, .int .i64 q] w (Ret w fun _ r => r = .int .i64 (q + tot3 xs)) := by
  have hq : 0 ≤ q ∧ q + szTo tot2 xs xs.length ≤ 1000000000 := hq0
  clear hq0
  obtain ⟨a, cap, rfl, hcap, hmax⟩ := Sl.shape h
  have hul : (up3 q xs).length = xs.length := mixTo_len _ _ _ _ _
  rw [hul] at h hmax ⊢
  have HU := Lib.hid hul; clear hul
  go_enter Tryz.func29, Tryz.ntmps29
  go_wp2
  go_loopw [1, 5] (fun qv iv wr => ∃ k : Nat, iv = .int .i64 k ∧ qv = .int .i64 (q + szTo tot2 xs k) ∧ k ≤ xs.length ∧ Ext w wr) (fun _ iv _ => xs.length - (intOf iv).toNat)
  case atStart => exact ⟨0, rfl, by simp [szTo], by omega, Ext.refl _⟩
  case round =>
    obtain ⟨k, rfl, rfl, hk, hg⟩ := hrel
    by_cases hlt : k < xs.length
    · obtain ⟨b, off, a2, cap2, rfl, _, _, hc2, hi2⟩ := Rows3.at (Rows3.ext h hg) k (by rw [HU.out]; exact hlt)
      have hgu : gt (up3 q xs) k = up2 (q + szTo tot2 xs k) (gt xs k) := by
        unfold up3; rw [gt_mixTo _ _ _ _ _ _ hlt, if_pos hlt]
      have hm := szTo_mono tot2 xs (show k + 1 ≤ xs.length by omega)
      have hst : szTo tot2 xs (k + 1) = szTo tot2 xs k + tot2 (gt xs k) := rfl
      have hqk : 0 ≤ q + (szTo tot2 xs k : Nat) ∧ q + (szTo tot2 xs k : Nat) + (tot2 (gt xs k) : Nat) ≤ 1000000000 := by omega
      have h0 : 0 ≤ q + (szTo tot2 xs k : Nat) + (tot2 (gt xs k) : Nat) := by omega
      have h1 : ¬ (q + (szTo tot2 xs k : Nat) + (tot2 (gt xs k) : Nat) < 0) := by omega
      have hi3 : Rows2 S wr (.slice a2 (gt (up3 q xs) k).length cap2) (up2 (q + szTo tot2 xs k) (gt xs k)) := by rw [← hgu]; exact hi2
      have HQ := Lib.hid (And.intro hqk (And.intro hm hst)); clear hqk hm hst hi2 hgu
      generalize (gt (up3 q xs) k).length = m2 at *
      go_wp2_with fail
      refine Calls.mono (heldInt64SS_ok _ ((gt xs k)) (q + (szTo tot2 xs k : Nat)) wr S hi3 HQ.out.1) ?_
      rintro eA wA ⟨vA, rfl, hgA, rfl⟩
      clear hc2 hi3
      go_wp2
      go_roundw
      case rel => exact ⟨k + 1, by go_num, by simp [szTo]; omega, by omega, grown_trans hg hgA⟩
      case measure => simp [intOf]; omega
    · have hke : k = xs.length := by omega
      subst hke
      go_wp2
      go_ret
      exact ⟨_, rfl, hg, rfl⟩

end Go.Proofs.YtigbpdaomgagiaaGreat

/- Three-fold lists in blocks of their own: a reading that names its blocks. -/
namespace Go.Proofs.YtigbpdaomgagiaaGreat
open Go.RowKit

theorem rdRows3 : RdOk (fun F w u (x : List (List (List Int))) => Rows3D F w u x) :=
  ⟨fun h hb => SlD.mono rdRows h hb, fun h => by obtain ⟨_, _, _, _, _, a, cap, rfl, _⟩ := h; rfl⟩

end Go.Proofs.YtigbpdaomgagiaaGreat

/- The rows' arguments: how a presentation that came in, or a list, reads in this claim's words. -/
namespace Go.Proofs.YtigbpdaomgagiaaGreat
open Go.RowKit Go.ChangeShapes Go.WideShapes Go.Deep

theorem cells_int64 : Tryz.prog.cellsOf 2 = 1 := by kernel_rfl
theorem cells_ints : Tryz.prog.cellsOf 22 = 1 := by kernel_rfl
theorem cells_rows : Tryz.prog.cellsOf 23 = 1 := by kernel_rfl
theorem und_int64r : Tryz.prog.underlying 2 = some (.int .i64) := by kernel_rfl

section
variable {H : Type} {enc : TypeId × Value → H} {W : World} {sp : Nat → Bool}

/-- a slice that was read is one of this claim's slices -/
theorem open_sl {α : Type} [Inhabited α] {El : World → Value → α → Prop} {t e : TypeId} (ht : Tryz.prog.underlying t = some (.slice e)) (hc : Tryz.prog.cellsOf e = 1)
    (hEl : ∀ n c x, DataW.trod enc Tryz.prog W 0 sp true n e [c] = some x → ∃ y, El W c y) {fuel : Nat} {c : Value} {x : DataW H × List MemPlace} (h : DataW.trod enc Tryz.prog W 0 sp true fuel t [c] = some x) :
    ∃ xs : List α, Sl El Any W c xs := by
  rcases open_slice1 ht hc h with ⟨hcs, _⟩ | ⟨a, len, cap, m, n, V, D, Pl, hcs, _, hl, hm, hmm, _, hx⟩
  · cases hcs
    exact ⟨[], none, 0, rfl, ⟨by simp, by simp, fun _ => rfl⟩, fun i hi => by simp at hi⟩
  · cases hcs
    have hlm : len ≤ m := by rw [hmm]; split <;> omega
    obtain ⟨Z, hZ⟩ := choose_lt (α := α) (n := len) (p := fun i y => El W (V i) y) (fun i hi => hEl n (V i) _ (hx i (by omega)).2)
    refine ⟨(List.range len).map Z, some a, cap, by simp, ⟨by simpa using hl, by simp; unfold maxLen at hm; omega, fun h => by cases h⟩, fun i hi => ?_⟩
    simp only [List.length_map, List.length_range] at hi
    obtain ⟨h1, h2⟩ := hx i (by omega)
    obtain ⟨b, off, spot⟩ := a
    have hs : spot = none := by
      have h0 := (hx 0 (by omega)).1
      exact World.cell?_spot (by simpa [Addr.add] using h0)
    subst hs
    have hcell : W.cell? ⟨b, off + i, none⟩ = some (V i) := by
      have e : (⟨b, off, none⟩ : Addr).add i = ⟨b, off + i, none⟩ := by
        unfold Addr.add; split
        · rename_i h; subst h; rfl
        · rfl
      rw [← e]; exact h1
    refine ⟨b, off, V i, rfl, trivial, World.block_lt_of_cell? W _ hcell, hcell, ?_⟩
    have : gt ((List.range len).map Z) i = Z i := by simp [gt, hi]
    rw [this]; exact hZ i hi

theorem open_i64 {n : Nat} {c : Value} {x : DataW H × List MemPlace} (h : DataW.trod enc Tryz.prog W 0 sp true n 2 [c] = some x) : ∃ y, IntEl W c y := by
  cases n with
  | zero => simp [DataW.trod] at h
  | succ n =>
    unfold DataW.trod at h
    rw [und_int64r] at h
    cases c <;> simp at h
    rename_i k z
    obtain ⟨⟨rfl, _⟩, _⟩ := h
    exact ⟨z, rfl⟩
theorem open_i64s {n : Nat} {c : Value} {x : DataW H × List MemPlace} (h : DataW.trod enc Tryz.prog W 0 sp true n 22 [c] = some x) : ∃ l, Ints Any W c l :=
  open_sl und_ints cells_int64 (fun _ _ _ h => open_i64 h) h
theorem open_rows2 {n : Nat} {c : Value} {x : DataW H × List MemPlace} (h : DataW.trod enc Tryz.prog W 0 sp true n 23 [c] = some x) : ∃ l, Rows2 Any W c l :=
  open_sl (El := fun w u x => Ints Any w u x) und_rows cells_ints (fun _ _ _ h => open_i64s h) h
theorem open_rows3 {n : Nat} {c : Value} {x : DataW H × List MemPlace} (h : DataW.trod enc Tryz.prog W 0 sp true n 24 [c] = some x) : ∃ l, Rows3 Any W c l :=
  open_sl (El := fun w u x => Rows2 Any w u x) und_rows3 cells_rows (fun _ _ _ h => open_rows2 h) h

theorem cells_pres : Tryz.prog.cellsOf 26 = 3 := by kernel_rfl

set_option maxRecDepth 100000 in
/-- a presentation that came in -/
theorem open_pres {base : Nat} {v : Value} {d : DataW H} {p : List MemPlace} (hv : Value.okWide Tryz.prog W .any base 26 v) (h : DataW.Trod enc Tryz.prog W 0 sp true 26 v d p) : ∃ P, PresV Any W v P := by
  obtain ⟨fs, hfs, h3⟩ : ∃ fs, Tryz.prog.underlying 26 = some (.struct fs) ∧ fs.map (fun f => (f.offset, f.type)) = #[(0, 22), (1, 23), (2, 24)] := ⟨_, Tryz.underlying26, by simp⟩
  obtain ⟨cs, rfl, hsz⟩ := okWide_struct hfs hv
  rw [cells_pres] at hsz
  obtain ⟨n, hn⟩ := h
  obtain ⟨xs, m, _, _, hl, hlen, hf⟩ := DataW.trod_struct hfs hn
  obtain ⟨c0, c1, c2, rfl⟩ : ∃ c0 c1 c2, cs = #[c0, c1, c2] := by
    match cs, hsz with
    | ⟨[c0, c1, c2]⟩, _ => exact ⟨c0, c1, c2, rfl⟩
  have hfsz : fs.size = 3 := by have := congrArg Array.size h3; simpa using this
  have hget : ∀ i (hi : i < 3), ∃ f, fs[i]? = some f ∧ (f.offset, f.type) = (#[(0, 22), (1, 23), (2, 24)] : Array (Nat × TypeId))[i]'(by simpa using hi) := fun i hi => by
    have h1 : (fs.map (fun f => (f.offset, f.type)))[i]? = (#[(0, 22), (1, 23), (2, 24)] : Array (Nat × TypeId))[i]? := by rw [h3]
    rw [Array.getElem?_map, Array.getElem?_eq_getElem (by omega), Array.getElem?_eq_getElem (by simpa using hi)] at h1
    exact ⟨_, Array.getElem?_eq_getElem (by omega), by simpa using h1⟩
  obtain ⟨f0, g0, e0⟩ := hget 0 (by omega)
  obtain ⟨f1, g1, e1⟩ := hget 1 (by omega)
  obtain ⟨f2, g2, e2⟩ := hget 2 (by omega)
  simp only [Prod.mk.injEq, List.getElem_toArray, List.getElem_cons_zero, List.getElem_cons_succ] at e0 e1 e2
  have k0 := hf 0 f0 g0
  have k1 := hf 1 f1 g1
  have k2 := hf 2 f2 g2
  rw [e0.1, e0.2, cells_ints, List.getElem?_eq_getElem (by omega)] at k0
  rw [e1.1, e1.2, cells_rows, List.getElem?_eq_getElem (by omega)] at k1
  rw [e2.1, e2.2, show Tryz.prog.cellsOf 24 = 1 by kernel_rfl, List.getElem?_eq_getElem (by omega)] at k2
  obtain ⟨o, ho⟩ := open_i64s k0
  obtain ⟨q, hq⟩ := open_rows2 k1
  obtain ⟨r, hr⟩ := open_rows3 k2
  exact ⟨⟨o, q, r⟩, c0, c1, c2, rfl, ⟨ho, hq, hr⟩⟩
end

end Go.Proofs.YtigbpdaomgagiaaGreat
