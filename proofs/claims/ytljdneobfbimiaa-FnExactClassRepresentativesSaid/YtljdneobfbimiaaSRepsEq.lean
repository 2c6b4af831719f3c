/-
  Plain: the representatives of the classes are the same on both sides.
-/
import Derived.Test.YtljdneobfbimiaaK7
import Derived.Test.YtljdneobfbimiaaSCmpNum
namespace Go.Proofs.Ytljdneobfbimiaa

/-- the numbers of the first t elements that open a class -/
def firstsTo (L : List Int) (c : Nat) : Nat → List Int
  | 0 => []
  | t + 1 => if (firstsTo L c t).length < c ∧ gt L t = ((firstsTo L c t).length : Int) then firstsTo L c t ++ [(t : Int)] else firstsTo L c t
theorem firstsTo_len (L : List Int) (c t : Nat) : (firstsTo L c t).length ≤ t := by
  induction t with
  | zero => simp [firstsTo]
  | succ t ih =>
    simp only [firstsTo]
    split
    · rw [List.length_append]; simp; omega
    · omega
theorem firstsTo_bd (L : List Int) (c t : Nat) : ∀ x ∈ firstsTo L c t, 0 ≤ x ∧ x < (t : Int) := by
  induction t with
  | zero => simp [firstsTo]
  | succ t ih =>
    intro x hx
    simp only [firstsTo] at hx
    split at hx
    · rcases List.mem_append.1 hx with h | h
      · have := ih x h; omega
      · rw [List.mem_singleton.1 h]; omega
    · have := ih x hx; omega
theorem firstsTo_full (L : List Int) (c t j : Nat) (h : c ≤ (firstsTo L c t).length) : firstsTo L c (t + j) = firstsTo L c t := by
  induction j with
  | zero => rfl
  | succ j ih =>
    show firstsTo L c (t + j + 1) = _
    rw [firstsTo, ih, if_neg (fun hh => by omega)]
def rFirsts (P : Pr) : List Int := firstsTo (rCls P).1 (rCls P).2 (ordP P).toNat

/-- what both sides hand back -/
def repsOf (P : Pr) : List (List Int) := (iCls P).map (fun C => gt C 0)

section
variable {P : Pr} (G : Grp P)
include G

omit G in
theorem iClsTo_pre (P : Pr) (k j : Nat) : ∃ M, iClsTo P (k + j) = iClsTo P k ++ M := by
  induction j with
  | zero => exact ⟨[], by simp⟩
  | succ j ih =>
    obtain ⟨M, hM⟩ := ih
    show ∃ M, iClsTo P (k + j + 1) = _
    rw [iClsTo]
    split
    · exact ⟨M, hM⟩
    · exact ⟨M ++ [_], by rw [hM, List.append_assoc]⟩

/-- what is painted stays -/
theorem Grp.painted (k j t : Nat) (hk : k + j ≤ (ordP P).toNat) (ht : t < (ordP P).toNat) (h : 0 ≤ gt (clsTo P k).1 t) : gt (clsTo P (k + j)).1 t = gt (clsTo P k).1 t := by
  have I := G.cls_inv k (by omega)
  have I' := G.cls_inv (k + j) hk
  obtain ⟨M, hM⟩ := iClsTo_pre P k j
  rcases I.at_ t ht with ⟨h1, _⟩ | ⟨i, h1, h2, h3, _⟩
  · omega
  · have hin : elAt P (t : Int) ∈ gt (iClsTo P (k + j)) i := by rw [hM, gt_append_left _ _ _ h2]; exact h3
    have hil : i < (iClsTo P (k + j)).length := by rw [hM, List.length_append]; omega
    rcases I'.at_ t ht with ⟨_, k2⟩ | ⟨i', k1, k2, k3, k4⟩
    · exact absurd hin (k2 _ (gt_mem hil))
    · rw [k1, h1, k4 i hil hin]

/-- the first member of a class is its least -/
theorem Grp.least {C : List (List Int)} (ok : ClsOk P C) (k : Nat) (hk : k < (ordP P).toNat) (hin : elAt P (k : Int) ∈ C) (hmin : ∀ t, t < k → elAt P (t : Int) ∉ C) : gt C 0 = elAt P (k : Int) := by
  obtain ⟨i, hi, he⟩ := mem_gt hin
  have h0 : 0 < C.length := by omega
  have hv0 := ok.vec _ (gt_mem h0)
  have hle := sortedL_le ok.so (Nat.zero_le i) hi
  rw [he] at hle
  have hb := num_bd G.v hv0
  have hvk := elAt_vec G.v (k : Int) (by omega)
  have hnk := num_elAt G.v (k : Int) (by omega) (by omega)
  -- its number is at most k, and not below k
  have h1 : ¬ num P (elAt P (k : Int)) < num P (gt C 0) := fun h => by
    have h2 := (cmpL_num G.v hvk hv0).2 h
    have h3 := cmpL_swap (gt C 0) (elAt P (k : Int))
    omega
  have h2 : ¬ num P (gt C 0) < (k : Int) := fun h => by
    refine hmin (num P (gt C 0)).toNat (by omega) ?_
    have e : elAt P (((num P (gt C 0)).toNat : Nat) : Int) = gt C 0 := by
      rw [show (((num P (gt C 0)).toNat : Nat) : Int) = num P (gt C 0) by omega]; exact elAt_num G.v hv0
    rw [e]; exact gt_mem h0
  rw [hnk] at h1
  have h3 : num P (gt C 0) = (k : Int) := by omega
  rw [← elAt_num G.v hv0, h3]

theorem Grp.reps_to (k : Nat) (hk : k ≤ (ordP P).toNat) : (iClsTo P k).map (fun C => gt C 0) = (firstsTo (rCls P).1 (rCls P).2 k).map (elAt P) := by
  induction k with
  | zero => rfl
  | succ k ih =>
    have ihk := ih (by omega)
    have I := G.cls_inv k (by omega)
    have hkN : k < (ordP P).toNat := by omega
    have hlen : (firstsTo (rCls P).1 (rCls P).2 k).length = (iClsTo P k).length := by
      have := congrArg List.length ihk
      simpa using this.symm
    have hany : ((iClsTo P k).any (fun C => bsFound C (elAt P (k : Int))) = true) ↔ ∃ C ∈ iClsTo P k, elAt P (k : Int) ∈ C := by
      rw [List.any_eq_true]
      constructor
      · rintro ⟨C, hC, h⟩
        rw [bsFound_mem _ _ (I.ok C hC).so] at h
        exact ⟨C, hC, of_decide_eq_true h⟩
      · rintro ⟨C, hC, h⟩
        refine ⟨C, hC, ?_⟩
        rw [bsFound_mem _ _ (I.ok C hC).so]
        exact decide_eq_true h
    by_cases h0 : 0 ≤ gt (clsTo P k).1 k
    · have hin : (iClsTo P k).any (fun C => bsFound C (elAt P (k : Int))) = true := by
        rw [hany]
        rcases I.at_ k hkN with ⟨h1, _⟩ | ⟨j, h1, h2, h3, _⟩
        · omega
        · exact ⟨_, gt_mem h2, h3⟩
      have e2 : iClsTo P (k + 1) = iClsTo P k := by rw [iClsTo, if_pos hin]
      have hfin : gt (rCls P).1 k = gt (clsTo P k).1 k := by
        have := G.painted k ((ordP P).toNat - k) k (by omega) hkN h0
        rw [show k + ((ordP P).toNat - k) = (ordP P).toNat by omega] at this
        exact this
      have hlt : gt (rCls P).1 k ≠ ((firstsTo (rCls P).1 (rCls P).2 k).length : Int) := by
        rw [hfin, hlen]
        rcases I.at_ k hkN with ⟨h1, _⟩ | ⟨j, h1, h2, _⟩
        · omega
        · omega
      rw [e2, firstsTo, if_neg (fun h => hlt h.2)]
      exact ihk
    · have hnot : ∀ C ∈ iClsTo P k, elAt P (k : Int) ∉ C := by
        rcases I.at_ k hkN with ⟨_, h2⟩ | ⟨j, h1, _⟩
        · exact h2
        · omega
      have hin : ¬ (iClsTo P k).any (fun C => bsFound C (elAt P (k : Int))) = true := by
        rw [hany]; rintro ⟨C, hC, h⟩; exact hnot C hC h
      have hxk := elAt_vec G.v (k : Int) (by omega)
      obtain ⟨hok, hmem⟩ := G.sortL_ok hxk
      have e2 : iClsTo P (k + 1) = iClsTo P k ++ [sortL (orb P (elAt P (k : Int)))] := by rw [iClsTo, if_neg hin]
      have e1 : clsTo P (k + 1) = (paint (marksTo P (elAt P (k : Int)) (ordP P).toNat) (clsTo P k).2 (clsTo P k).1 (ordP P).toNat, (clsTo P k).2 + 1) := by rw [clsTo, if_neg h0]
      have hp1 : gt (clsTo P (k + 1)).1 k = ((clsTo P k).2 : Int) := by
        rw [e1]
        simp only
        rw [paint_gt _ _ _ _ k (by rw [clsTo_len]; exact hkN), if_pos ⟨hkN, (G.marks_cj hxk k hkN).2 (G.Cj_refl hxk)⟩]
      have hfin : gt (rCls P).1 k = ((iClsTo P k).length : Int) := by
        have := G.painted (k + 1) ((ordP P).toNat - (k + 1)) k (by omega) hkN (by rw [hp1]; omega)
        rw [show k + 1 + ((ordP P).toNat - (k + 1)) = (ordP P).toNat by omega] at this
        have h2 : gt (rCls P).1 k = gt (clsTo P (k + 1)).1 k := this
        rw [h2, hp1, I.num]
      have hcnt : (iClsTo P k).length < (rCls P).2 := by
        have I2 := G.cls_inv (ordP P).toNat (Nat.le_refl _)
        have h2 : (rCls P).2 = (iClsTo P (ordP P).toNat).length := I2.num
        obtain ⟨M, hM⟩ := iClsTo_pre P (k + 1) ((ordP P).toNat - (k + 1))
        rw [show k + 1 + ((ordP P).toNat - (k + 1)) = (ordP P).toNat by omega] at hM
        rw [h2, hM, e2, List.length_append, List.length_append]
        simp; omega
      rw [e2, List.map_append, ihk, firstsTo, if_pos ⟨by rw [hlen]; exact hcnt, by rw [hlen]; exact hfin⟩, List.map_append]
      congr 1
      simp only [List.map_cons, List.map_nil]
      congr 1
      refine G.least hok k hkN ((hmem _).2 (G.Cj_refl hxk)) (fun t ht hc => ?_)
      -- an earlier element has a class already
      have hcj := (hmem _).1 hc
      have hd := I.done t ht
      rcases I.at_ t (by omega) with ⟨h1, _⟩ | ⟨j, _, h2, h3, _⟩
      · omega
      · exact hnot _ (gt_mem h2) (((I.ok _ (gt_mem h2)).cj _ h3 _).2 (G.Cj_symm hxk hcj))

theorem Grp.reps_eq : repsOf P = (rFirsts P).map (elAt P) := G.reps_to _ (Nat.le_refl _)

end

end Go.Proofs.Ytljdneobfbimiaa
