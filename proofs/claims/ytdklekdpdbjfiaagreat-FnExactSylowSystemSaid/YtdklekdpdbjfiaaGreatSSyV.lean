/-
  Plain: the values of SylowSystem.
-/
import Derived.Test.YtdklekdpdbjfiaaGreatK9
import Derived.Test.YtdklekdpdbjfiaaGreatK5
namespace Go.Proofs.YtdklekdpdbjfiaaGreat
open Go.RowKit

section
variable {P : Pr}
theorem sort_ex (G : Grp P) : ∀ l : List (List (List Int)), (∀ u ∈ l, SubB P u) → ∃ L : List (List (List Int)), L.Pairwise (subLt P) ∧ ∀ u, u ∈ L ↔ u ∈ l
  | [], _ => ⟨[], List.Pairwise.nil, fun _ => Iff.rfl⟩
  | a :: l, h => by
    obtain ⟨L, hL, hm⟩ := sort_ex G l (fun u hu => h u (List.mem_cons_of_mem _ hu))
    by_cases ha : a ∈ L
    · refine ⟨L, hL, fun u => (hm u).trans ⟨fun hu => List.mem_cons_of_mem _ hu, fun hu => ?_⟩⟩
      rcases List.mem_cons.1 hu with rfl | hu
      · exact (hm _).1 ha
      · exact hu
    · have haS := h a (List.mem_cons_self ..)
      have hdec : DecidablePred (fun u => subLt P u a) := fun _ => Classical.propDecidable _
      have hdec2 : DecidablePred (fun u => subLt P a u) := fun _ => Classical.propDecidable _
      refine ⟨L.filter (fun u => decide (subLt P u a)) ++ a :: L.filter (fun u => decide (subLt P a u)), ?_, fun u => ?_⟩
      · refine List.pairwise_append.2 ⟨hL.filter _, List.pairwise_cons.2 ⟨fun u hu => ?_, hL.filter _⟩, fun u hu v hv => ?_⟩
        · exact of_decide_eq_true (List.mem_filter.1 hu).2
        · have h1 : subLt P u a := of_decide_eq_true (List.mem_filter.1 hu).2
          rcases List.mem_cons.1 hv with rfl | hv
          · exact h1
          · exact subLt_trans h1 (of_decide_eq_true (List.mem_filter.1 hv).2)
      · rw [List.mem_append, List.mem_cons, List.mem_filter, List.mem_filter, List.mem_cons]
        constructor
        · rintro (⟨h1, _⟩ | rfl | ⟨h1, _⟩)
          · exact .inr ((hm u).1 h1)
          · exact .inl rfl
          · exact .inr ((hm u).1 h1)
        · rintro (rfl | hu)
          · exact .inr (.inl rfl)
          · have huL := (hm u).2 hu
            have huS := h u (List.mem_cons_of_mem _ hu)
            have hne : u ≠ a := fun e => ha (by rw [← e]; exact huL)
            by_cases hlt : subLt P u a
            · exact .inl ⟨huL, decide_eq_true hlt⟩
            · exact .inr (.inr ⟨huL, decide_eq_true (subLt_total G huS haS hne hlt)⟩)
theorem hallL_ex (G : Grp P) (pr : List Int) : ∃ L, HallL P pr L := by
  obtain ⟨u, hu⟩ := hall_some G pr
  obtain ⟨L, h1, h2⟩ := sort_ex G (cjTo P u (ordP P).toNat) (fun v hv => ((cjTo_hall G hu v).1 hv).1)
  exact ⟨L, h1, fun v => (h2 v).trans (cjTo_hall G hu v)⟩
theorem hf_sub {pr : List Int} (h : hcC P pr = 0) : SubB P (hfL P pr) := by
  have G := grp_of_r (hc_zero h).1
  obtain ⟨L, hL⟩ := hallL_ex G pr
  unfold hfL
  rw [hl_ok h hL]
  exact ((hL.2 _).1 (gt_mem (hL.pos G))).1
end

theorem prSet_of {pr : List Int} (h1 : ∀ q ∈ pr, q = 2 ∨ q = 3 ∨ q = 5 ∨ q = 7) (h2 : pr.Pairwise (· < ·)) : PrSet pr := fun i hi => by
  refine ⟨?_, fun h0 => ?_⟩
  · have hq := h1 _ (gt_mem hi)
    rcases hq with e | e | e | e <;> rw [e] <;> decide
  · have h3 := List.pairwise_iff_getElem.1 h2 (i - 1) i (by omega) hi (by omega)
    rw [gt_eq pr (i - 1) (by omega), gt_eq pr i hi]
    exact h3

/-- the primes but one -/
def oth (P : Pr) (i : Nat) : List Int := (dvs (ordP P)).take i ++ (dvs (ordP P)).drop (i + 1)
theorem oth_sub (P : Pr) (i : Nat) : (oth P i).Sublist (dvs (ordP P)) := by
  have h := List.Sublist.append (List.Sublist.refl ((dvs (ordP P)).take i)) (List.drop_sublist 1 ((dvs (ordP P)).drop i))
  rw [List.take_append_drop, List.drop_drop] at h
  exact h
theorem prSet_oth (P : Pr) (i : Nat) : PrSet (oth P i) :=
  prSet_of (fun _ hq => (dvs_mem ((oth_sub P i).subset hq)).1) ((dvs_sorted _).sublist (oth_sub P i))
theorem hc_oth {P : Pr} (h : hcC P [] = 0) (i : Nat) : hcC P (oth P i) = 0 := hc_nil h (prSet_oth P i)
theorem oth_len (P : Pr) (i : Nat) : (oth P i).length ≤ 4 := Nat.le_trans (oth_sub P i).length_le (dvs_len _)

noncomputable def hsTo (P : Pr) (k : Nat) : List (List (List Int)) := (List.range k).map (fun i => hfL P (oth P i))
theorem hsTo_succ (P : Pr) (k : Nat) : hsTo P (k + 1) = hsTo P k ++ [hfL P (oth P k)] := by unfold hsTo; rw [List.range_succ, List.map_append]; rfl
theorem hsTo_len (P : Pr) (k : Nat) : (hsTo P k).length = k := by unfold hsTo; simp
theorem hsTo_gt (P : Pr) {k j : Nat} (h : j < k) : gt (hsTo P k) j = hfL P (oth P j) := by
  rw [gt_eq _ j (by rw [hsTo_len]; exact h)]
  unfold hsTo
  simp
/-- the meet of the first j Hall subgroups but that of number i -/
def syT (P : Pr) (i : Nat) : Nat → List Int → Prop
  | 0 => Vec P.orders
  | j + 1 => if j = i then syT P i j else fun x => syT P i j x ∧ gP P (hfL P (oth P j)) x
theorem syT_sub {P : Pr} (h : hcC P [] = 0) (i : Nat) : ∀ j, Sub P (syT P i j)
  | 0 => (grp_of_r (hc_zero h).1).sub_all
  | j + 1 => by
    have G := grp_of_r (hc_zero h).1
    unfold syT
    by_cases e : j = i
    · rw [if_pos e]; exact syT_sub h i j
    · rw [if_neg e]; exact (syT_sub h i j).and (G.subB (hf_sub (hc_oth h j)))
noncomputable def syTo (P : Pr) (k : Nat) : List (List (List Int)) := (List.range k).map (fun i => cseq P (syT P i (dvs (ordP P)).length))
theorem syTo_succ (P : Pr) (k : Nat) : syTo P (k + 1) = syTo P k ++ [cseq P (syT P k (dvs (ordP P)).length)] := by unfold syTo; rw [List.range_succ, List.map_append]; rfl
theorem syTo_len (P : Pr) (k : Nat) : (syTo P k).length = k := by unfold syTo; simp
noncomputable def sysL (P : Pr) : List (List (List Int)) := if hcC P [] = 0 then syTo P (dvs (ordP P)).length else []
theorem sys_no {P : Pr} (h : hcC P [] ≠ 0) : sysL P = [] := by unfold sysL; rw [if_neg h]
theorem sys_ok {P : Pr} (h : hcC P [] = 0) : sysL P = syTo P (dvs (ordP P)).length := by unfold sysL; rw [if_pos h]
theorem sys_bd (P : Pr) : (sysL P).length ≤ 4 ∧ ∀ u ∈ sysL P, u.length ≤ 6 ∧ ∀ x ∈ u, x.length ≤ 6 := by
  by_cases h : hcC P [] = 0
  · have G := grp_of_r (hc_zero h).1
    rw [sys_ok h]
    refine ⟨by rw [syTo_len]; exact dvs_len _, fun u hu => ?_⟩
    unfold syTo at hu
    obtain ⟨i, _, rfl⟩ := List.mem_map.1 hu
    have hc := syT_sub h i (dvs (ordP P)).length
    have h1 := G.cseq_len hc
    have h2 := (G.seq_facts hc).2.1
    have := G.v.n6
    exact ⟨by omega, fun x hx => by rw [(hc.vec x (h2 x hx)).1]; omega⟩
  · rw [sys_no h]; exact ⟨by decide, fun x hx => by cases hx⟩
theorem sys_len (P : Pr) : (sysL P).length ≤ 17408 := by have := (sys_bd P).1; omega
theorem sys_tot (P : Pr) : tot3 (sysL P) ≤ 100000000 := part_tot (sys_len P) (sys_bd P).2

end Go.Proofs.YtdklekdpdbjfiaaGreat
