/-
  Plain: the minimal normal subgroups, as both sides pick them.
-/
import Derived.Test.YtdklekdpdbjfiaaGreatSNormL
import Derived.Test.YtdklekdpdbjfiaaGreatSFlLaw
namespace Go.Proofs.YtdklekdpdbjfiaaGreat
open Go.RowKit

theorem flTo_iff {Q : Nat → Prop} {L : List (List (List Int))} {u : List (List Int)} : ∀ k, u ∈ flTo Q L k ↔ ∃ i, i < k ∧ Q i ∧ u = gt L i
  | 0 => ⟨fun h => (by cases h), fun ⟨i, h, _⟩ => (by omega)⟩
  | k + 1 => by
    have ih := flTo_iff (Q := Q) (L := L) (u := u) k
    by_cases h : Q k
    · rw [flTo_yes h, List.mem_append, ih, List.mem_singleton]
      constructor
      · rintro (⟨i, h1, h2⟩ | h1)
        · exact ⟨i, by omega, h2⟩
        · exact ⟨k, by omega, h, h1⟩
      · rintro ⟨i, h1, h2, h3⟩
        rcases Nat.lt_succ_iff_lt_or_eq.1 h1 with h4 | h4
        · exact .inl ⟨i, h4, h2, h3⟩
        · subst h4; exact .inr h3
    · rw [flTo_no h, ih]
      constructor
      · rintro ⟨i, h1, h2⟩; exact ⟨i, by omega, h2⟩
      · rintro ⟨i, h1, h2, h3⟩
        rcases Nat.lt_succ_iff_lt_or_eq.1 h1 with h4 | h4
        · exact ⟨i, h4, h2, h3⟩
        · subst h4; exact absurd h2 h
theorem flTo_sub (Q : Nat → Prop) (L : List (List (List Int))) : ∀ k, k ≤ L.length → (flTo Q L k).Sublist (L.take k)
  | 0, _ => by simp [flTo]
  | k + 1, h => by
    have ih := flTo_sub Q L k (by omega)
    rw [take_succ_gt L k (by omega)]
    by_cases hq : Q k
    · rw [flTo_yes hq]; exact ih.append (List.Sublist.refl _)
    · rw [flTo_no hq]; exact ih.trans (List.sublist_append_left _ _)
theorem flTo_pw {Q : Nat → Prop} {L : List (List (List Int))} {r : List (List Int) → List (List Int) → Prop} (h : L.Pairwise r) : (flTo Q L L.length).Pairwise r := by
  have := flTo_sub Q L L.length (Nat.le_refl _)
  rw [List.take_of_length_le (Nat.le_refl _)] at this
  exact h.sublist this

theorem flTo_nr (P : Pr) (L : List (List (List Int))) : ∀ k, flTo (fun i => NormP P (gP P (gt L i))) L k = nrTo P L k
  | 0 => rfl
  | k + 1 => by
    have ih := flTo_nr P L k
    by_cases h : NormP P (gP P (gt L k))
    · rw [flTo_yes (Q := fun i => NormP P (gP P (gt L i))) h, nrTo_yes h, ih]
    · rw [flTo_no (Q := fun i => NormP P (gP P (gt L i))) h, nrTo_no h, ih]

/-- minimal among the nontrivial normal ones -/
def minQ (P : Pr) (L : List (List (List Int))) (i : Nat) : Prop :=
  gt L i ≠ [] ∧ NormP P (gP P (gt L i)) ∧ ∀ k, k < L.length → k ≠ i → gt L k ≠ [] → (∀ x, gP P (gt L k) x → gP P (gt L i) x) → ¬ NormP P (gP P (gt L k))
def minR (P : Pr) (N : List (List (List Int))) (k : Nat) : Prop := 1 ≤ k ∧ ∀ i, 1 ≤ i → i < k → ¬ ∀ z ∈ gt N i, gP P (gt N k) z

theorem cmpL_nil (l : List Int) : ¬ cmpL l [] < 0 := by
  cases l <;> simp [cmpL]

theorem pw_lt {L : List (List (List Int))} {P : Pr} (h : L.Pairwise (subLt P)) {i j : Nat} (hi : i < L.length) (hj : j < L.length) (hlt : subLt P (gt L i) (gt L j)) : i < j := by
  rcases Nat.lt_trichotomy i j with h1 | h1 | h1
  · exact h1
  · subst h1; exact absurd hlt subLt_irrefl
  · have := List.pairwise_iff_getElem.1 h j i hj hi h1
    rw [← gt_eq L j hj, ← gt_eq L i hi] at this
    exact absurd (subLt_trans hlt this) subLt_irrefl
theorem pw_inj {L : List (List (List Int))} {P : Pr} (h : L.Pairwise (subLt P)) {i j : Nat} (hi : i < L.length) (hj : j < L.length) (e : gt L i = gt L j) : i = j := by
  rcases Nat.lt_trichotomy i j with h1 | h1 | h1
  · have := List.pairwise_iff_getElem.1 h i j hi hj h1
    rw [← gt_eq L j hj, ← gt_eq L i hi, e] at this
    exact absurd this subLt_irrefl
  · exact h1
  · have := List.pairwise_iff_getElem.1 h j i hj hi h1
    rw [← gt_eq L j hj, ← gt_eq L i hi, e] at this
    exact absurd this subLt_irrefl

section
variable {P : Pr} (G : Grp P)
include G
theorem Grp.subB_nil : SubB P [] := by
  have h := G.subB_cseq G.sub_one
  have hl := G.order_elems G.sub_one
  have e : cseq P (fun x => x = zeros P.orders.length) = [] := by
    have hf := G.seq_facts G.sub_one
    cases hc : cseq P (fun x => x = zeros P.orders.length) with
    | nil => rfl
    | cons z l =>
      exfalso
      have hz := hf.2.1 z (by rw [hc]; exact List.mem_cons_self ..)
      have hs := (hf.1.1 z (by rw [hc]; exact List.mem_cons_self ..)).2.2
      rw [hz] at hs
      have : gt (zeros P.orders.length) (dep (zeros P.orders.length)) = 0 := gt_replicate _ _
      omega
  rw [e] at h
  exact h
theorem Grp.ord_pos {u : List (List Int)} (hu : SubB P u) : 1 ≤ prodU P u u.length := by
  have h := (G.seq_facts (G.subB hu)).1
  rw [← hu.2] at h
  exact (prodU_729 G.v h _ (Nat.le_refl _)).1
theorem Grp.nil_norm : NormP P (gP P []) := by
  have e : gP P [] = fun x => x = zeros P.orders.length := by
    rw [← G.genP_none]
    show genP P (fun z => z ∈ []) = _
    congr 1
    funext z
    simp
  intro x hx g hg
  rw [e] at hx ⊢
  rw [hx]
  exact G.conj_zeros hg

/-- a subgroup within another one comes ahead of it -/
theorem Grp.within_lt {u v : List (List Int)} (hu : SubB P u) (hv : SubB P v) (h : ∀ x, gP P v x → gP P u x) (hne : v ≠ u) : subLt P v u := by
  have h1 := G.order_le (G.subB hv) (G.subB hu) h
  have e1 : cseq P (genP P fun x => x ∈ v) = v := hv.2.symm
  have e2 : cseq P (genP P fun x => x ∈ u) = u := hu.2.symm
  rw [e1, e2] at h1
  refine .inl ?_
  rcases Int.lt_or_eq_of_le h1.1 with h2 | h2
  · exact h2
  · exfalso
    apply hne
    have e3 : gP P v = gP P u := funext fun x => propext ⟨h x, h1.2 h2 x⟩
    rw [← e1, ← e2]
    exact congrArg (cseq P) e3

theorem Grp.min_eq {L : List (List (List Int))} (h : LatL P L) : flTo (minQ P L) L L.length = flTo (minR P (nrTo P L L.length)) (nrTo P L L.length) (nrTo P L L.length).length := by
  obtain ⟨N, hN⟩ : ∃ N, N = nrTo P L L.length := ⟨_, rfl⟩
  rw [← hN]
  have hNp : N.Pairwise (subLt P) := by rw [hN, ← flTo_nr]; exact flTo_pw h.1
  have hNm : ∀ u, u ∈ N ↔ u ∈ L ∧ NormP P (gP P u) := fun u => by
    rw [hN, ← flTo_nr, flTo_iff]
    constructor
    · rintro ⟨i, h1, h2, rfl⟩; exact ⟨gt_mem h1, h2⟩
    · rintro ⟨h1, h2⟩
      obtain ⟨i, hi, rfl⟩ := mem_gt h1
      exact ⟨i, hi, h2, rfl⟩
  have hnil : [] ∈ N := (hNm _).2 ⟨(h.2 _).2 G.subB_nil, G.nil_norm⟩
  obtain ⟨z, hz, hze⟩ := mem_gt hnil
  have hz0 : z = 0 := by
    refine Classical.byContradiction fun hne => ?_
    have h1 := List.pairwise_iff_getElem.1 hNp 0 z (by omega) hz (by omega)
    rw [← gt_eq N 0 (by omega), ← gt_eq N z hz] at h1
    have h2 : gt N z = [] := by first | exact hze | exact hze.symm
    rw [h2] at h1
    have hB := (h.2 _).1 ((hNm _).1 (gt_mem (show 0 < N.length by omega))).1
    have h3 := G.ord_pos hB
    rcases h1 with h1 | ⟨_, h1⟩
    · have h4 : prodU P ([] : List (List Int)) ([] : List (List Int)).length = 1 := rfl
      rw [h4] at h1
      omega
    · exact cmpL_nil _ h1
  subst hz0
  have hN0 : gt N 0 = [] := by first | exact hze | exact hze.symm
  refine sorted_one (fun _ => subLt_irrefl) (fun _ _ _ => subLt_trans) (flTo_pw h.1) (flTo_pw hNp) (fun u => ?_)
  rw [flTo_iff, flTo_iff]
  constructor
  · rintro ⟨i, hi, ⟨h1, h2, h3⟩, rfl⟩
    obtain ⟨k, hk, hke⟩ := mem_gt ((hNm _).2 ⟨gt_mem hi, h2⟩)
    have hke : gt L i = gt N k := by first | exact hke | exact hke.symm
    refine ⟨k, hk, ⟨?_, fun j hj1 hjk hw => ?_⟩, hke⟩
    · rcases Nat.eq_zero_or_pos k with h4 | h4
      · subst h4; rw [hN0] at hke; exact absurd hke h1
      · exact h4
    · have hjN := (hNm _).1 (gt_mem (show j < N.length by omega))
      obtain ⟨m, hm, hme⟩ := mem_gt hjN.1
      have hme : gt N j = gt L m := by first | exact hme | exact hme.symm
      refine h3 m hm (fun e => ?_) (fun e => ?_) (fun x hx => ?_) (by rw [← hme]; exact hjN.2)
      · subst e
        have := pw_inj hNp (by omega) hk (hme.trans hke)
        omega
      · rw [← hme, ← hN0] at e
        have := pw_inj hNp (by omega) (by omega) e
        omega
      · rw [← hme] at hx
        have hu := G.subB ((h.2 _).1 (gt_mem hi))
        rw [hke]
        rw [hke] at hu
        exact genP_le hu hw hx
  · rintro ⟨k, hk, ⟨hk1, hk2⟩, rfl⟩
    have hkN := (hNm _).1 (gt_mem hk)
    obtain ⟨i, hi, hie⟩ := mem_gt hkN.1
    have hie : gt N k = gt L i := by first | exact hie | exact hie.symm
    refine ⟨i, hi, ⟨fun e => ?_, by rw [← hie]; exact hkN.2, fun m hm hmi hmn hw hn => ?_⟩, hie⟩
    · rw [← hie, ← hN0] at e
      have := pw_inj hNp hk (by omega) e
      omega
    · obtain ⟨j, hj, hje⟩ := mem_gt ((hNm _).2 ⟨gt_mem hm, hn⟩)
      have hje : gt L m = gt N j := by first | exact hje | exact hje.symm
      have hj1 : 1 ≤ j := by
        rcases Nat.eq_zero_or_pos j with h4 | h4
        · subst h4; rw [hN0] at hje; exact absurd hje hmn
        · exact h4
      have hne : gt L m ≠ gt L i := fun e => hmi (pw_inj h.1 hm hi e)
      have hlt := G.within_lt ((h.2 _).1 (gt_mem hi)) ((h.2 _).1 (gt_mem hm)) hw hne
      rw [hje, ← hie] at hlt
      have hjk := pw_lt hNp hj hk hlt
      refine hk2 j hj1 hjk (fun z hz => ?_)
      rw [hie]
      refine hw z ?_
      rw [hje]
      exact genP_mem hz
end

open Classical in
noncomputable def mnL (P : Pr) : List (List (List Int)) := if latC P = 0 ∧ ∃ L, LatL P L then flTo (minQ P (latL P)) (latL P) (latL P).length else []
theorem mnL_ok {P : Pr} {L : List (List (List Int))} (h : latC P = 0) (hL : LatL P L) : mnL P = flTo (minQ P L) L L.length := by
  unfold mnL; rw [if_pos ⟨h, L, hL⟩, latL_eq hL]
theorem mnL_no {P : Pr} (h : latC P ≠ 0) : mnL P = [] := by unfold mnL; rw [if_neg (fun hh => h hh.1)]
theorem mnL_bd (P : Pr) : (mnL P).length ≤ 17408 ∧ ∀ u ∈ mnL P, u.length ≤ 6 ∧ ∀ x ∈ u, x.length ≤ 6 := by
  by_cases h : latC P = 0 ∧ ∃ L, LatL P L
  · obtain ⟨hc, L, hL⟩ := h
    have G := grp_of_r (latC_zero hc).1
    rw [mnL_ok hc hL]
    have h1 := flTo_len (minQ P L) L L.length
    have h2 := G.lat_len (latC_zero hc).2 hL
    exact ⟨by omega, fun u hu => G.lat_row hL u (flTo_mem (Nat.le_refl _) u hu)⟩
  · unfold mnL; rw [if_neg h]; simp
theorem mnL_len (P : Pr) : (mnL P).length ≤ 17408 := (mnL_bd P).1
theorem mnL_tot (P : Pr) : tot3 (mnL P) ≤ 100000000 := part_tot (mnL_bd P).1 (mnL_bd P).2

end Go.Proofs.YtdklekdpdbjfiaaGreat
