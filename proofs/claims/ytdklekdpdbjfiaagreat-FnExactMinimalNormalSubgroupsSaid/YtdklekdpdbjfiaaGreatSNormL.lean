/-
  Plain: the normal subgroups are those of classes of one.
-/
import Derived.Test.YtdklekdpdbjfiaaGreatK9
namespace Go.Proofs.YtdklekdpdbjfiaaGreat
open Go.RowKit

open Classical in
/-- the normal ones of the first k -/
noncomputable def nrTo (P : Pr) (L : List (List (List Int))) : Nat → List (List (List Int))
  | 0 => []
  | k + 1 => if NormP P (gP P (gt L k)) then nrTo P L k ++ [gt L k] else nrTo P L k
theorem nrTo_yes {P : Pr} {L : List (List (List Int))} {k : Nat} (h : NormP P (gP P (gt L k))) : nrTo P L (k + 1) = nrTo P L k ++ [gt L k] := by rw [nrTo, if_pos h]
theorem nrTo_no {P : Pr} {L : List (List (List Int))} {k : Nat} (h : ¬ NormP P (gP P (gt L k))) : nrTo P L (k + 1) = nrTo P L k := by rw [nrTo, if_neg h]
theorem nrTo_len (P : Pr) (L : List (List (List Int))) : ∀ k, (nrTo P L k).length ≤ k
  | 0 => Nat.le_refl _
  | k + 1 => by
    have := nrTo_len P L k
    unfold nrTo
    split
    · rw [List.length_append, List.length_singleton]; omega
    · omega
theorem nrTo_mem {P : Pr} {L : List (List (List Int))} : ∀ {k : Nat}, k ≤ L.length → ∀ u ∈ nrTo P L k, u ∈ L
  | 0, _, u, h => by cases h
  | k + 1, hk, u, h => by
    unfold nrTo at h
    split at h
    · rcases List.mem_append.1 h with h | h
      · exact nrTo_mem (by omega) u h
      · rw [List.mem_singleton.1 h]; exact gt_mem (by omega)
    · exact nrTo_mem (by omega) u h

/-- the first k with the size 1 -/
def onesTo (F : List (List (List Int))) (Z : List Nat) : Nat → List (List (List Int))
  | 0 => []
  | k + 1 => if gt Z k = 1 then onesTo F Z k ++ [gt F k] else onesTo F Z k
theorem onesTo_len (F : List (List (List Int))) (Z : List Nat) : ∀ k, (onesTo F Z k).length ≤ k
  | 0 => Nat.le_refl _
  | k + 1 => by
    have := onesTo_len F Z k
    unfold onesTo
    split
    · rw [List.length_append, List.length_singleton]; omega
    · omega
theorem onesTo_app (F : List (List (List Int))) (Z : List Nat) (hl : Z.length = F.length) (u : List (List Int)) (s : Nat) : ∀ k, k ≤ F.length → onesTo (F ++ [u]) (Z ++ [s]) k = onesTo F Z k
  | 0, _ => rfl
  | k + 1, hk => by
    unfold onesTo
    rw [onesTo_app F Z hl u s k (by omega), gt_append_left _ _ _ (show k < Z.length by omega), gt_append_left _ _ _ (show k < F.length by omega)]
theorem onesTo_last (F : List (List (List Int))) (Z : List Nat) (hl : Z.length = F.length) (u : List (List Int)) (s : Nat) : onesTo (F ++ [u]) (Z ++ [s]) (F.length + 1) = if s = 1 then onesTo F Z F.length ++ [u] else onesTo F Z F.length := by
  rw [onesTo, onesTo_app F Z hl u s _ (Nat.le_refl _), gt_concat]
  have : gt (Z ++ [s]) F.length = s := by rw [← hl, gt_concat]
  rw [this]

theorem cnS_length (P : Pr) (u : List (List Int)) (S : List (List (List Int))) : ∀ t, (cnS P u S t).1.length = S.length + (cnS P u S t).2
  | 0 => rfl
  | t + 1 => by
    have ih := cnS_length P u S t
    by_cases h : cjU P u (elAt P (t : Int)) ∈ (cnS P u S t).1
    · rw [cnS_no h]; exact ih
    · rw [cnS_yes h]
      simp only [List.length_append, List.length_singleton]
      omega

section
variable {P : Pr} (G : Grp P)
include G

theorem Grp.el_all {x : List Int} (hx : Vec P.orders x) : ∃ j, j < (ordP P).toNat ∧ x = elAt P (j : Int) :=
  ⟨_, (G.num_lt hx).1, (G.num_lt hx).2.symm⟩
theorem Grp.cjU_back {u : List (List Int)} (hu : SubB P u) {x : List Int} (hx : Vec P.orders x) : cjU P (cjU P u x) (rInv P x) = u := by
  rw [G.cjU_mul hu hx (G.invV hx), G.mul_inv hx, G.cjU_one hu]

/-- what was seen are the conjugates of the subgroups so far -/
theorem Grp.clS_iff {L : List (List (List Int))} (hL : ∀ u ∈ L, SubB P u) : ∀ k, k ≤ L.length → ∀ v, v ∈ (clS P L k).seen ↔ ∃ j, j < k ∧ ∃ x, Vec P.orders x ∧ v = cjU P (gt L j) x
  | 0, _, v => ⟨fun h => (by cases h), fun ⟨j, hj, _⟩ => (by omega)⟩
  | k + 1, hk, v => by
    have ih := Grp.clS_iff hL k (by omega)
    have hu := hL _ (gt_mem (show k < L.length by omega))
    by_cases h : gt L k ∈ (clS P L k).seen
    · rw [clS_no h, ih v]
      constructor
      · rintro ⟨j, hj, r⟩; exact ⟨j, by omega, r⟩
      · rintro ⟨j, hj, x, hx, e⟩
        rcases Nat.lt_succ_iff_lt_or_eq.1 hj with h1 | h1
        · exact ⟨j, h1, x, hx, e⟩
        · subst h1
          obtain ⟨i, hi, y, hy, e2⟩ := (ih _).1 h
          refine ⟨i, hi, rMul P y x, G.mulV hy hx, ?_⟩
          rw [e, e2, G.cjU_mul (hL _ (gt_mem (by omega))) hy hx]
    · rw [clS_yes h]
      show v ∈ (cnS P (gt L k) (clS P L k).seen (ordP P).toNat).1 ↔ _
      rw [cnS_mem, ih v]
      constructor
      · rintro (⟨j, hj, r⟩ | ⟨j, hj, e⟩)
        · exact ⟨j, by omega, r⟩
        · exact ⟨k, by omega, _, G.elAtV hj, e⟩
      · rintro ⟨j, hj, x, hx, e⟩
        rcases Nat.lt_succ_iff_lt_or_eq.1 hj with h1 | h1
        · exact .inl ⟨j, h1, x, hx, e⟩
        · subst h1
          obtain ⟨i, hi, e2⟩ := G.el_all hx
          exact .inr ⟨i, hi, by rw [e, e2]⟩

theorem Grp.cls_one {L : List (List (List Int))} (hL : ∀ u ∈ L, SubB P u) {k : Nat} (hk : k < L.length) (hn : ¬ gt L k ∈ (clS P L k).seen) :
    (cnS P (gt L k) (clS P L k).seen (ordP P).toNat).2 = 1 ↔ NormP P (gP P (gt L k)) := by
  have hu := hL _ (gt_mem hk)
  rw [G.norm_cjU hu]
  have hS := G.clS_seen hL k (by omega)
  have hiff := G.clS_iff hL k (by omega)
  obtain ⟨S, hSd⟩ : ∃ S, S = (clS P L k).seen := ⟨_, rfl⟩
  obtain ⟨u, hud⟩ : ∃ u, u = gt L k := ⟨_, rfl⟩
  rw [← hSd, ← hud] at hn ⊢
  rw [← hSd] at hS hiff
  rw [← hud] at hu
  have hlen := cnS_length P u S (ordP P).toNat
  have hmem := cnS_mem P u S (ordP P).toNat
  have hC := G.cnS_seen hu hS _ (Nat.le_refl _)
  have hself : u ∈ (cnS P u S (ordP P).toNat).1 := (hmem u).2 (by
    obtain ⟨i, hi, e⟩ := G.el_all G.oneV
    exact .inr ⟨i, hi, by rw [← e, G.cjU_one hu]⟩)
  have hnodup : (S ++ [u]).Nodup := by
    rw [List.nodup_append]
    exact ⟨hS.one, by simp, fun a ha b hb e => hn (by rw [List.mem_singleton.1 hb] at e; rw [← e]; exact ha)⟩
  constructor
  · intro h1 x hx
    refine Classical.byContradiction fun hne => ?_
    have hcS : ¬ cjU P u x ∈ S := fun hc => by
      obtain ⟨j, hj, y, hy, e⟩ := (hiff _).1 hc
      refine hn ((hiff u).2 ⟨j, hj, rMul P y (rInv P x), G.mulV hy (G.invV hx), ?_⟩)
      rw [← G.cjU_mul (hL _ (gt_mem (by omega))) hy (G.invV hx), ← e, G.cjU_back hu hx]
    have hcm : cjU P u x ∈ (cnS P u S (ordP P).toNat).1 := (hmem _).2 (by
      obtain ⟨i, hi, e⟩ := G.el_all hx
      exact .inr ⟨i, hi, by rw [← e]⟩)
    have h2 : (S ++ [u] ++ [cjU P u x]).Nodup := by
      rw [List.nodup_append]
      refine ⟨hnodup, by simp, fun a ha b hb e => ?_⟩
      rw [List.mem_singleton.1 hb] at e
      rcases List.mem_append.1 ha with h | h
      · exact hcS (by rw [← e]; exact h)
      · exact hne (by rw [← e]; exact List.mem_singleton.1 h)
    have h3 := nodup_sub_len _ (cnS P u S (ordP P).toNat).1 h2 (fun v hv => by
      rcases List.mem_append.1 hv with hv | hv
      · rcases List.mem_append.1 hv with hv | hv
        · exact (hmem v).2 (.inl hv)
        · rw [List.mem_singleton.1 hv]; exact hself
      · rw [List.mem_singleton.1 hv]; exact hcm)
    simp only [List.length_append, List.length_singleton] at h3
    omega
  · intro h
    have h2 := nodup_sub_len _ (S ++ [u]) hC.one (fun v hv => by
      rcases (hmem v).1 hv with hv | ⟨j, hj, e⟩
      · exact List.mem_append.2 (.inl hv)
      · rw [e, h _ (G.elAtV hj)]; simp)
    have h3 := nodup_sub_len _ (cnS P u S (ordP P).toNat).1 hnodup (fun v hv => by
      rcases List.mem_append.1 hv with hv | hv
      · exact (hmem v).2 (.inl hv)
      · rw [List.mem_singleton.1 hv]; exact hself)
    simp only [List.length_append, List.length_singleton] at h2 h3
    omega

/-- the classes of one are the normal subgroups -/
theorem Grp.ones_eq {L : List (List (List Int))} (h : LatL P L) : ∀ k, k ≤ L.length → onesTo (clS P L k).firsts (clS P L k).sizes (clS P L k).firsts.length = nrTo P L k
  | 0, _ => rfl
  | k + 1, hk => by
    have ih := Grp.ones_eq h k (by omega)
    have hL : ∀ u ∈ L, SubB P u := fun u hu => (h.2 u).1 hu
    have hu := hL _ (gt_mem (show k < L.length by omega))
    by_cases hs : gt L k ∈ (clS P L k).seen
    · rw [clS_no hs, ih]
      refine (nrTo_no (fun hN => ?_)).symm
      obtain ⟨j, hj, x, hx, e⟩ := (G.clS_iff hL k (by omega) _).1 hs
      have hj2 := hL _ (gt_mem (show j < L.length by omega))
      have h1 := G.cjU_back hj2 hx
      rw [← e, (G.norm_cjU hu).1 hN _ (G.invV hx)] at h1
      have h2 := List.pairwise_iff_getElem.1 h.1 j k (by omega) (by omega) hj
      rw [← gt_eq L j (by omega), ← gt_eq L k (by omega), ← h1] at h2
      exact subLt_irrefl h2
    · rw [clS_yes hs]
      show onesTo ((clS P L k).firsts ++ [gt L k]) ((clS P L k).sizes ++ [_]) ((clS P L k).firsts ++ [gt L k]).length = _
      rw [List.length_append, List.length_singleton, onesTo_last _ _ (clS_len P L k).2]
      have hc := G.cls_one hL (show k < L.length by omega) hs
      by_cases hN : NormP P (gP P (gt L k))
      · rw [if_pos (hc.2 hN), nrTo_yes hN, ih]
      · rw [if_neg (fun hh => hN (hc.1 hh)), nrTo_no hN, ih]
end

open Classical in
noncomputable def nrmL (P : Pr) : List (List (List Int)) := if latC P = 0 ∧ ∃ L, LatL P L then nrTo P (latL P) (latL P).length else []
theorem nrmL_ok {P : Pr} {L : List (List (List Int))} (h : latC P = 0) (hL : LatL P L) : nrmL P = nrTo P L L.length := by
  unfold nrmL; rw [if_pos ⟨h, L, hL⟩, latL_eq hL]
theorem nrmL_no {P : Pr} (h : latC P ≠ 0) : nrmL P = [] := by unfold nrmL; rw [if_neg (fun hh => h hh.1)]
theorem nrmL_bd (P : Pr) : (nrmL P).length ≤ 17408 ∧ ∀ u ∈ nrmL P, u.length ≤ 6 ∧ ∀ x ∈ u, x.length ≤ 6 := by
  by_cases h : latC P = 0 ∧ ∃ L, LatL P L
  · obtain ⟨hc, L, hL⟩ := h
    have G := grp_of_r (latC_zero hc).1
    rw [nrmL_ok hc hL]
    have h1 := nrTo_len P L L.length
    have h2 := G.lat_len (latC_zero hc).2 hL
    exact ⟨by omega, fun u hu => G.lat_row hL u (nrTo_mem (Nat.le_refl _) u hu)⟩
  · unfold nrmL; rw [if_neg h]; simp
theorem nrmL_len (P : Pr) : (nrmL P).length ≤ 17408 := (nrmL_bd P).1
theorem nrmL_tot (P : Pr) : tot3 (nrmL P) ≤ 100000000 := part_tot (nrmL_bd P).1 (nrmL_bd P).2

end Go.Proofs.YtdklekdpdbjfiaaGreat
