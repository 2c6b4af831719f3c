/-
  Plain: in a consistent presentation the program's classes are the reference's: what the program collects of a member is its conjugacy class, and both count the same sizes.
  impl.ClassSizes.
  The reference's class sizes: spec.ClassSizes.
  ClassSizes on both sides.
  Plain: the representatives of the classes are the same on both sides.
  Plain: the classes of powers: both sides answer the same.
  Plain: the elements of a group with a property, as far as they were looked at.
  impl.elementsWith at the closures of SubgroupNormalizer and centralizer (printed by gen_elwith.py).
  impl.movesInto, SubgroupNormalizer on a subgroup.
  impl.centralizer, SubgroupCentralizer on a subgroup.
  impl.areElements.
  impl.Multiply, Inverse, Commutator on elements (printed by gen_elw.py).
  impl.Conjugate, Power, ClassNumber, ElementCentralizer on elements (printed by gen_elw2.py).
  ConjugatingElement on both sides.
  Plain: the class number of an element; conjugate elements have conjugate powers.
  impl.centerAbove, impl.Center (printed by gen_ctw.py).
  impl.ClassRepresentatives: the first rows of the classes; each lies in a block of its own.
  Plain: the class equation.
  laws.sum, impl.CommutingPairs.
  slices.Grow at rows, laid from the shelf.
  What the program's public subgroup functions answer on subgroups (printed by gen_auxw.py).
  laws.FnClassEquation answers true (printed by gen_lce.py).
-/
import Derived.Test.YtdcobapnlpeaaaaGreatTCe1
import Derived.Deep.RegionHeld3
import Derived.Maps.OwnSet
import Derived.Maps.StringElems
import Derived.StringKeys
import Derived.Laws.BitsAllLaws
import Derived.Shelf.Spec.SlicesGrow
namespace Go.Proofs.YtdcobapnlpeaaaaGreat
section
variable {P : Pr} (G : Grp P)
include G
def Cj (P : Pr) (x y : List Int) : Prop := ∃ g, Vec P.orders g ∧ y = rConj P x g
omit G in
theorem mem_addZ (hP : Valid P) {L : List (List Int)} (hL : OrbI P L) {z : List Int} (hz : Vec P.orders z) (y : List Int) : y ∈ addZ P L z ↔ y ∈ L ∨ y = z := by
 unfold addZ
 split
 ·rename_i h
  obtain ⟨u, hu, hn⟩ := List.mem_map.1 h
  have : u = z := num_inj hP (hL.vec u hu) hz hn
  subst this
  constructor
  ·exact fun h => .inl h
  ·rintro (h | h)
   ·exact h
   ·rw [h]; exact hu
 ·simp
theorem Grp.orbIn_mem {L : List (List Int)} (hL : OrbI P L) {y : List Int} (hy : Vec P.orders y) (g : Nat) : ∀ z, z ∈ orbIn P y L g ↔ z ∈ L ∨ ∃ j, j < g ∧ z = rConj P y (unitV P.orders.length j) := by
 induction g with
 | zero =>
  intro z
  simp only [orbIn]
  exact ⟨fun h => .inl h, fun h => h.elim id (fun ⟨j, hj, _⟩ => by omega)⟩
 | succ g ih =>
  intro z
  simp only [orbIn]
  rw [mem_addZ G.v (hL.inn G.v hy g) (iConj_vec G.v y _ hy (unitV_vec G.v g)), ih z, G.iConj_eq hy (unitV_vec G.v g)]
  constructor
  ·rintro ((h | ⟨j, hj, h⟩) | h)
   ·exact .inl h
   ·exact .inr ⟨j, by omega, h⟩
   ·exact .inr ⟨g, by omega, h⟩
  ·rintro (h | ⟨j, hj, h⟩)
   ·exact .inl (.inl h)
   ·by_cases e : j = g
    ·subst e; exact .inr h
    ·exact .inl (.inr ⟨j, by omega, h⟩)
theorem Grp.orbTo_spec {x : List Int} (hx : Vec P.orders x) (f : Nat) : ∀ (i : Nat) (L : List (List Int)), f + i = (ordP P).toNat + 1 → i ≤ L.length → OrbI P L → x ∈ L → (∀ y ∈ L, Cj P x y) →
  (∀ j, j < i → ∀ g, g < P.orders.length → rConj P (gt L j) (unitV P.orders.length g) ∈ L) →
  OrbI P (orbTo P f i L) ∧ x ∈ orbTo P f i L ∧ (∀ y ∈ orbTo P f i L, Cj P x y) ∧ ∀ y ∈ orbTo P f i L, ∀ g, g < P.orders.length → rConj P y (unitV P.orders.length g) ∈ orbTo P f i L := by
 induction f with
 | zero =>
  intro i L hf hi hL _ _ _
  have := hL.len G.v
  omega
 | succ f ih =>
  intro i L hf hi hL hxL hcj hcl
  simp only [orbTo]
  by_cases hlt : i < L.length
  ·rw [if_pos hlt]
   have hy := hL.vec _ (gt_mem hlt)
   have hmem := G.orbIn_mem hL hy P.orders.length
   obtain ⟨M, hM⟩ := orbIn_pre P (gt L i) L P.orders.length
   have hlen : L.length ≤ (orbIn P (gt L i) L P.orders.length).length := by rw [hM, List.length_append]; omega
   refine ih (i + 1) _ (by omega) (by omega) (hL.inn G.v hy _) ((hmem x).2 (.inl hxL)) ?_ ?_
   ·intro y hyy
    rcases (hmem y).1 hyy with h | ⟨j, hj, h⟩
    ·exact hcj y h
    ·obtain ⟨g, hg, h2⟩ := hcj _ (gt_mem hlt)
     refine ⟨rMul P g (unitV P.orders.length j), G.mulV hg (unitV_vec G.v j), ?_⟩
     rw [h, h2, G.conj_mul hx hg (unitV_vec G.v j)]
   ·intro j hj g hg
    have e : gt (orbIn P (gt L i) L P.orders.length) j = gt L j := by rw [hM]; exact gt_append_left _ _ _ (by omega)
    rw [e]
    by_cases ej : j = i
    ·rw [ej]; exact (hmem _).2 (.inr ⟨g, hg, rfl⟩)
    ·exact (hmem _).2 (.inl (hcl j (by omega) g hg))
  ·rw [if_neg hlt]
   have : i = L.length := by omega
   refine ⟨hL, hxL, hcj, fun y hy g hg => ?_⟩
   obtain ⟨j, hj, rfl⟩ := mem_gt hy
   exact hcl j (by omega) g hg
theorem Grp.orb_spec {x : List Int} (hx : Vec P.orders x) : OrbI P (orb P x) ∧ ∀ y, y ∈ orb P x ↔ Cj P x y := by
 obtain ⟨h1, h2, h3, h4⟩ := G.orbTo_spec hx ((ordP P).toNat + 1) 0 [x] rfl (by simp) (OrbI.single hx) (by simp) (fun y hy => by
  rw [List.mem_singleton.1 hy]; exact ⟨_, G.oneV, (G.conj_one hx).symm⟩) (fun j hj => by omega)
 refine ⟨h1, fun y => ⟨h3 y, ?_⟩⟩
 rintro ⟨g, hg, rfl⟩
 have key := G.gen_ind (fun g => ∀ y ∈ orb P x, rConj P y g ∈ orb P x) (fun y hy => by rw [G.conj_one (h1.vec y hy)]; exact hy) (fun u j hu ih hj y hy => by
  rw [← G.conj_mul (h1.vec y hy) hu (unitV_vec G.v j)]
  exact h4 _ (ih y hy) j hj) hg
 exact key x h2
theorem Grp.Cj_refl {x : List Int} (hx : Vec P.orders x) : Cj P x x := ⟨_, G.oneV, (G.conj_one hx).symm⟩
theorem Grp.Cj_symm {x y : List Int} (hx : Vec P.orders x) (h : Cj P x y) : Cj P y x := by
 obtain ⟨g, hg, rfl⟩ := h
 exact ⟨rInv P g, G.invV hg, (G.conj_back hx hg).symm⟩
theorem Grp.Cj_trans {x y z : List Int} (hx : Vec P.orders x) (h : Cj P x y) (k : Cj P y z) : Cj P x z := by
 obtain ⟨g, hg, rfl⟩ := h
 obtain ⟨u, hu, rfl⟩ := k
 exact ⟨_, G.mulV hg hu, G.conj_mul hx hg hu⟩
theorem Grp.Cj_vec {x y : List Int} (hx : Vec P.orders x) (h : Cj P x y) : Vec P.orders y := by
 obtain ⟨g, hg, rfl⟩ := h
 exact G.conjV hx hg
theorem Grp.marks_spec {x : List Int} (hx : Vec P.orders x) (k : Nat) (hk : k ≤ (ordP P).toNat) : ∀ t, t < (ordP P).toNat → (gt (marksTo P x k) t = true ↔ ∃ j, j < k ∧ rConj P x (elAt P (j : Int)) = elAt P (t : Int)) := by
 induction k with
 | zero =>
  intro t ht
  simp only [marksTo]
  have : gt (List.replicate (ordP P).toNat false) t = false := by simp [gt, ht]
  rw [this]
  constructor
  ·intro h; cases h
  ·rintro ⟨j, hj, _⟩; omega
 | succ k ih =>
  intro t ht
  simp only [marksTo]
  rw [gt_set _ _ _ _ (by rw [marksTo_len]; exact ht)]
  have hv := G.conjV hx (elAt_vec G.v (k : Int) (by omega))
  have hb := num_bd G.v hv
  by_cases e : (num P (rConj P x (elAt P (k : Int)))).toNat = t
  ·rw [if_pos e]
   constructor
   ·intro _
    refine ⟨k, by omega, ?_⟩
    rw [← e, show (((num P (rConj P x (elAt P (k : Int)))).toNat : Nat) : Int) = num P (rConj P x (elAt P (k : Int))) by omega, elAt_num G.v hv]
   ·intro _; rfl
  ·rw [if_neg e, ih (by omega) t ht]
   constructor
   ·rintro ⟨j, hj, h⟩; exact ⟨j, by omega, h⟩
   ·rintro ⟨j, hj, h⟩
    by_cases ej : j = k
    ·subst ej
     exfalso; apply e
     rw [h, num_elAt G.v _ (by omega) (by omega)]
     omega
    ·exact ⟨j, by omega, h⟩
theorem Grp.marks_cj {x : List Int} (hx : Vec P.orders x) (t : Nat) (ht : t < (ordP P).toNat) : gt (marksTo P x (ordP P).toNat) t = true ↔ Cj P x (elAt P (t : Int)) := by
 rw [G.marks_spec hx _ (Nat.le_refl _) t ht]
 constructor
 ·rintro ⟨j, hj, h⟩; exact ⟨_, elAt_vec G.v (j : Int) (by omega), h.symm⟩
 ·rintro ⟨g, hg, h⟩
  have hb := num_bd G.v hg
  refine ⟨(num P g).toNat, by omega, ?_⟩
  rw [show (((num P g).toNat : Nat) : Int) = num P g by omega, elAt_num G.v hg, h]
omit G in
theorem paint_gt (m : List Bool) (c : Int) (L : List Int) (j : Nat) : ∀ t, t < L.length → gt (paint m c L j) t = if t < j ∧ gt m t = true then c else gt L t := by
 induction j with
 | zero => intro t ht; rw [if_neg (by omega)]; rfl
 | succ j ih =>
  intro t ht
  simp only [paint]
  by_cases hm : gt m j = true
  ·rw [if_pos hm, gt_set _ _ _ _ (by rw [paint_len]; exact ht)]
   by_cases e : j = t
   ·subst e; rw [if_pos rfl, if_pos ⟨by omega, hm⟩]
   ·rw [if_neg e, ih t ht]
    by_cases h2 : t < j ∧ gt m t = true
    ·rw [if_pos h2, if_pos ⟨by omega, h2.2⟩]
    ·rw [if_neg h2, if_neg (fun h => h2 ⟨by omega, h.2⟩)]
  ·rw [if_neg hm, ih t ht]
   by_cases h2 : t < j ∧ gt m t = true
   ·rw [if_pos h2, if_pos ⟨by omega, h2.2⟩]
   ·rw [if_neg h2, if_neg (fun h => h2 ⟨by
     rcases Nat.lt_succ_iff_lt_or_eq.1 h.1 with h3 | h3
     ·exact h3
     ·subst h3; exact absurd h.2 hm, h.2⟩)]
omit G in
theorem fill_gt (N j : Nat) (hj : j ≤ N) : ∀ t, t < j → gt (fillTo N j) t = -1 := by
 induction j with
 | zero => intro t ht; omega
 | succ j ih =>
  intro t ht
  simp only [fillTo]
  rw [gt_set _ _ _ _ (by rw [fillTo_len]; omega)]
  split
  ·rfl
  ·exact ih (by omega) t (by omega)
structure ClsOk (P : Pr) (C : List (List Int)) : Prop where
 nd : C.Nodup
 so : SortedL C
 vec : ∀ y ∈ C, Vec P.orders y
 cj : ∀ y ∈ C, ∀ z, z ∈ C ↔ Cj P y z
structure ClsInv (P : Pr) (k : Nat) : Prop where
 num : (clsTo P k).2 = (iClsTo P k).length
 ok : ∀ C ∈ iClsTo P k, ClsOk P C
 done : ∀ t, t < k → 0 ≤ gt (clsTo P k).1 t
 at_ : ∀ t, t < (ordP P).toNat → (gt (clsTo P k).1 t = -1 ∧ ∀ C ∈ iClsTo P k, elAt P (t : Int) ∉ C) ∨
  ∃ j : Nat, gt (clsTo P k).1 t = j ∧ j < (iClsTo P k).length ∧ elAt P (t : Int) ∈ gt (iClsTo P k) j ∧ ∀ j', j' < (iClsTo P k).length → elAt P (t : Int) ∈ gt (iClsTo P k) j' → j' = j
theorem Grp.sortL_ok {x : List Int} (hx : Vec P.orders x) : ClsOk P (sortL (orb P x)) ∧ ∀ y, y ∈ sortL (orb P x) ↔ Cj P x y := by
 obtain ⟨h1, h2⟩ := G.orb_spec hx
 have hp := sortL_perm (orb P x)
 have hm : ∀ y, y ∈ sortL (orb P x) ↔ Cj P x y := fun y => hp.mem_iff.trans (h2 y)
 have hnd : (orb P x).Nodup := by
  have h3 := h1.nd
  unfold List.Nodup at h3 ⊢
  rw [List.pairwise_map] at h3
  exact h3.imp (fun h e => h (by rw [e]))
 refine ⟨⟨(hp.nodup_iff).2 hnd, sortL_sorted _, fun y hy => G.Cj_vec hx ((hm y).1 hy), fun y hy z => ?_⟩, hm⟩
 rw [hm z]
 have hxy := (hm y).1 hy
 constructor
 ·intro h; exact G.Cj_trans (G.Cj_vec hx hxy) (G.Cj_symm hx hxy) h
 ·intro h; exact G.Cj_trans hx hxy h
theorem Grp.cls_inv (k : Nat) (hk : k ≤ (ordP P).toNat) : ClsInv P k := by
 induction k with
 | zero =>
  refine ⟨rfl, fun C h => (by cases h), fun t ht => by omega, fun t ht => .inl ⟨?_, fun C h => (by cases h)⟩⟩
  simp only [clsTo]
  exact fill_gt _ _ (Nat.le_refl _) t ht
 | succ k ih =>
  have I := ih (by omega)
  have hany : ((iClsTo P k).any (fun C => bsFound C (elAt P (k : Int))) = true) ↔ ∃ C ∈ iClsTo P k, elAt P (k : Int) ∈ C := by
   rw [List.any_eq_true]
   constructor
   ·rintro ⟨C, hC, h⟩
    rw [bsFound_mem _ _ (I.ok C hC).so] at h
    exact ⟨C, hC, of_decide_eq_true h⟩
   ·rintro ⟨C, hC, h⟩
    refine ⟨C, hC, ?_⟩
    rw [bsFound_mem _ _ (I.ok C hC).so]
    exact decide_eq_true h
  have hkN : k < (ordP P).toNat := by omega
  by_cases h0 : 0 ≤ gt (clsTo P k).1 k
  ·-- already painted
   have hin : (iClsTo P k).any (fun C => bsFound C (elAt P (k : Int))) = true := by
    rw [hany]
    rcases I.at_ k hkN with ⟨h1, _⟩ | ⟨j, h1, h2, h3, _⟩
    ·omega
    ·exact ⟨_, gt_mem h2, h3⟩
   have e1 : clsTo P (k + 1) = clsTo P k := by rw [clsTo, if_pos h0]
   have e2 : iClsTo P (k + 1) = iClsTo P k := by rw [iClsTo, if_pos hin]
   refine ⟨by rw [e1, e2]; exact I.num, by rw [e2]; exact I.ok, fun t ht => ?_, by rw [e1, e2]; exact I.at_⟩
   rw [e1]
   rcases Nat.lt_succ_iff_lt_or_eq.1 ht with h | h
   ·exact I.done t h
   ·rw [h]; exact h0
  ·have hnot : ∀ C ∈ iClsTo P k, elAt P (k : Int) ∉ C := by
    rcases I.at_ k hkN with ⟨_, h2⟩ | ⟨j, h1, _⟩
    ·exact h2
    ·omega
   have hin : ¬ (iClsTo P k).any (fun C => bsFound C (elAt P (k : Int))) = true := by
    rw [hany]; rintro ⟨C, hC, h⟩; exact hnot C hC h
   have hxk := elAt_vec G.v (k : Int) (by omega)
   obtain ⟨hok, hmem⟩ := G.sortL_ok hxk
   have e1 : clsTo P (k + 1) = (paint (marksTo P (elAt P (k : Int)) (ordP P).toNat) (clsTo P k).2 (clsTo P k).1 (ordP P).toNat, (clsTo P k).2 + 1) := by rw [clsTo, if_neg h0]
   have e2 : iClsTo P (k + 1) = iClsTo P k ++ [sortL (orb P (elAt P (k : Int)))] := by rw [iClsTo, if_neg hin]
   have hpg : ∀ t, t < (ordP P).toNat → gt (clsTo P (k + 1)).1 t = if gt (marksTo P (elAt P (k : Int)) (ordP P).toNat) t = true then ((clsTo P k).2 : Int) else gt (clsTo P k).1 t := fun t ht => by
    rw [e1]
    simp only
    rw [paint_gt _ _ _ _ t (by rw [clsTo_len]; exact ht)]
    by_cases hm : gt (marksTo P (elAt P (k : Int)) (ordP P).toNat) t = true
    ·rw [if_pos ⟨ht, hm⟩, if_pos hm]
    ·rw [if_neg (fun h => hm h.2), if_neg hm]
   -- a member of the new class stands in no old one
   have hdis : ∀ t, t < (ordP P).toNat → Cj P (elAt P (k : Int)) (elAt P (t : Int)) → ∀ C ∈ iClsTo P k, elAt P (t : Int) ∉ C := fun t ht h C hC hc =>
    hnot C hC (((I.ok C hC).cj _ hc _).2 (G.Cj_symm hxk h))
   have hnewat : gt (iClsTo P (k + 1)) (iClsTo P k).length = sortL (orb P (elAt P (k : Int))) := by rw [e2]; exact gt_concat _ _
   have hold : ∀ j, j < (iClsTo P k).length → gt (iClsTo P (k + 1)) j = gt (iClsTo P k) j := fun j hj => by rw [e2]; exact gt_append_left _ _ _ hj
   have hlen : (iClsTo P (k + 1)).length = (iClsTo P k).length + 1 := by rw [e2, List.length_append]; rfl
   have hat : ∀ t, t < (ordP P).toNat → (gt (clsTo P (k + 1)).1 t = -1 ∧ ∀ C ∈ iClsTo P (k + 1), elAt P (t : Int) ∉ C) ∨
     ∃ j : Nat, gt (clsTo P (k + 1)).1 t = j ∧ j < (iClsTo P (k + 1)).length ∧ elAt P (t : Int) ∈ gt (iClsTo P (k + 1)) j ∧ ∀ j', j' < (iClsTo P (k + 1)).length → elAt P (t : Int) ∈ gt (iClsTo P (k + 1)) j' → j' = j := fun t ht => by
    rw [hpg t ht]
    by_cases hm : gt (marksTo P (elAt P (k : Int)) (ordP P).toNat) t = true
    ·rw [if_pos hm]
     have hc := (G.marks_cj hxk t ht).1 hm
     refine .inr ⟨(iClsTo P k).length, by rw [I.num], by omega, by rw [hnewat]; exact (hmem _).2 hc, fun j' hj' h => ?_⟩
     by_cases hlt : j' < (iClsTo P k).length
     ·rw [hold j' hlt] at h
      exact absurd h (hdis t ht hc _ (gt_mem hlt))
     ·omega
    ·rw [if_neg hm]
     have hc : ¬ Cj P (elAt P (k : Int)) (elAt P (t : Int)) := fun h => hm ((G.marks_cj hxk t ht).2 h)
     rcases I.at_ t ht with ⟨h1, h2⟩ | ⟨j, h1, h2, h3, h4⟩
     ·refine .inl ⟨h1, fun C hC => ?_⟩
      rw [e2, List.mem_append] at hC
      rcases hC with hC | hC
      ·exact h2 C hC
      ·rw [List.mem_singleton.1 hC]; exact fun h => hc ((hmem _).1 h)
     ·refine .inr ⟨j, h1, by omega, by rw [hold j h2]; exact h3, fun j' hj' h => ?_⟩
      by_cases hlt : j' < (iClsTo P k).length
      ·rw [hold j' hlt] at h; exact h4 j' hlt h
      ·have : j' = (iClsTo P k).length := by omega
       rw [this, hnewat] at h
       exact absurd ((hmem _).1 h) hc
   refine ⟨by rw [e1, hlen]; simp only; rw [I.num], fun C hC => ?_, fun t ht => ?_, hat⟩
   ·rw [e2, List.mem_append] at hC
    rcases hC with hC | hC
    ·exact I.ok C hC
    ·rw [List.mem_singleton.1 hC]; exact hok
   ·rw [hpg t (by omega)]
    split
    ·omega
    ·rename_i hm
     rcases Nat.lt_succ_iff_lt_or_eq.1 ht with h | h
     ·exact I.done t h
     ·exfalso; apply hm; rw [h]; exact (G.marks_cj hxk k hkN).2 (G.Cj_refl hxk)
theorem Grp.rCls_bd : ∀ k, k < (ordP P).toNat → 0 ≤ gt (rCls P).1 k ∧ gt (rCls P).1 k < (rCls P).2 := by
 intro k hk
 have I := G.cls_inv (ordP P).toNat (Nat.le_refl _)
 have h1 := I.done k hk
 refine ⟨h1, ?_⟩
 unfold rCls
 rcases I.at_ k hk with ⟨h2, _⟩ | ⟨j, h2, h3, _⟩
 ·omega
 ·rw [h2, I.num]; omega
omit G in
theorem cnt_gt (L : List Int) (c k : Nat) (hb : ∀ t, t < k → 0 ≤ gt L t ∧ gt L t < c) : ∀ j, j < c → gt (cntTo L c k) j = (((List.range k).filter (fun t => decide (gt L t = (j : Int)))).length : Nat) := by
 induction k with
 | zero => intro j hj; simp [cntTo, gt, hj]
 | succ k ih =>
  intro j hj
  have hk := hb k (by omega)
  simp only [cntTo]
  rw [gt_set _ _ _ _ (by rw [cntTo_len]; exact hj), List.range_succ, List.filter_append, List.length_append]
  have ihj := ih (fun t ht => hb t (by omega)) j hj
  by_cases e : gt L k = (j : Int)
  ·have e' : (gt L k).toNat = j := by omega
   rw [if_pos e', e', ihj]
   simp [e]
  ·have e' : ¬ (gt L k).toNat = j := by omega
   rw [if_neg e', ihj]
   simp [e]
theorem Grp.sizes_eq : iSizes P = rSizes P := by
 have I := G.cls_inv (ordP P).toNat (Nat.le_refl _)
 have hbd := G.rCls_bd
 unfold iSizes rSizes
 refine ext_gt ?_ (fun j hj => ?_)
 ·rw [List.length_map, cntTo_len]; exact I.num.symm
 ·rw [List.length_map] at hj
  have hj2 : j < (rCls P).2 := by show j < (clsTo P _).2; rw [I.num]; exact hj
  rw [gt_map _ _ _ hj, cnt_gt _ _ _ hbd j hj2]
  congr 1
  have ok := I.ok _ (gt_mem hj)
  have hnd : (((List.range (ordP P).toNat).filter (fun t => decide (gt (rCls P).1 t = (j : Int)))).map (fun t : Nat => elAt P (t : Int))).Nodup := by
   unfold List.Nodup
   rw [List.pairwise_map]
   have h1 : ((List.range (ordP P).toNat).filter (fun t => decide (gt (rCls P).1 t = (j : Int)))).Pairwise (fun a b => a ≠ b) := List.Pairwise.filter _ List.nodup_range
   refine List.Pairwise.imp_of_mem ?_ h1
   intro a b ha hb hne e
   have ha' := List.mem_range.1 (List.mem_filter.1 ha).1
   have hb' := List.mem_range.1 (List.mem_filter.1 hb).1
   have := congrArg (num P) e
   rw [num_elAt G.v _ (by omega) (by omega), num_elAt G.v _ (by omega) (by omega)] at this
   omega
  have hperm : (gt (iCls P) j).Perm (((List.range (ordP P).toNat).filter (fun t => decide (gt (rCls P).1 t = (j : Int)))).map (fun t : Nat => elAt P (t : Int))) := by
   refine (List.perm_ext_iff_of_nodup ok.nd hnd).2 (fun y => ?_)
   rw [List.mem_map]
   constructor
   ·intro hy
    have hv := ok.vec y hy
    have hb := num_bd G.v hv
    have hey : elAt P (((num P y).toNat : Nat) : Int) = y := by
     rw [show (((num P y).toNat : Nat) : Int) = num P y by omega]; exact elAt_num G.v hv
    refine ⟨(num P y).toNat, List.mem_filter.2 ⟨List.mem_range.2 (by omega), decide_eq_true ?_⟩, hey⟩
    rcases I.at_ (num P y).toNat (by omega) with ⟨_, h2⟩ | ⟨j', h1, h2, h3, h4⟩
    ·exact absurd hy (by rw [← hey]; exact h2 _ (gt_mem hj))
    ·have : j = j' := h4 j hj (by rw [hey]; exact hy)
     rw [this]; exact h1
   ·rintro ⟨t, ht, rfl⟩
    have ht1 := List.mem_range.1 (List.mem_filter.1 ht).1
    have ht2 : gt (rCls P).1 t = (j : Int) := of_decide_eq_true (List.mem_filter.1 ht).2
    rcases I.at_ t ht1 with ⟨h1, _⟩ | ⟨j', h1, h2, h3, _⟩
    ·have h1' : gt (rCls P).1 t = -1 := h1
     omega
    ·have h1' : gt (rCls P).1 t = (j' : Int) := h1
     have : j' = j := by omega
     rw [← this]; exact h3
  rw [hperm.length_eq, List.length_map]
end
end Go.Proofs.YtdcobapnlpeaaaaGreat
namespace Go.Proofs.YtdcobapnlpeaaaaGreat
open Go.Proofs Go.RowKit
set_option maxRecDepth 100000 in
set_option maxHeartbeats 8000000 in
theorem iClassSizes_ok (P : Pr) (w : World) (pv : Value) (Sp : Nat → Prop) (hpv : PresV Sp w pv P) :
  Calls Tryz.prog 61 #[pv] w (Ret w fun w' v => ∃ r, v = .tuple #[r, .int .i64 (clsCode P (iconsB P))] ∧ ((clsCode P (iconsB P) ≠ 0 ∧ r = .slice none 0 0) ∨ (clsCode P (iconsB P) = 0 ∧ Own w.heap.size w' r (iSizes P)))) := by
 obtain ⟨vo, vp, vc, rfl, h3⟩ := hpv
 have hp0 := PresP.box h3 28
 have hg0 : Ext w (w.alloc (.cells #[vo, vp, vc] 28)) := World.grownBy_alloc _ _ _
 go_enter Tryz.func61, Tryz.ntmps61
 go_wp2_with fail
 refine Calls.mono (classesOf_ok P _ _ _ hp0) ?_
 rintro eA wA ⟨vA, rfl, hgA, r, rfl, hr⟩
 have hgw := grown_trans hg0 hgA
 rcases hr with ⟨hz, rfl⟩ | ⟨hz, hC⟩
 ·have hz' : (clsCode P (iconsB P) != 0) = true := by simpa using hz
  go_wp2
  exact bodyPost_ret (v := .tuple #[.slice none 0 0, .int .i64 (clsCode P (iconsB P))]) (by simp [results, Tryz.results61, go_sem]) rfl ⟨_, rfl, hgw, _, rfl, .inl ⟨hz, rfl⟩⟩
 ·have hlen : (iCls P).length ≤ (ordP P).toNat := iClsTo_len P _
  have h128 : ordP P ≤ 128 := by
   cases hi : iconsB P with
   | false => rw [hi] at hz; simp [clsCode] at hz
   | true => rw [hi] at hz; simp only [clsCode, if_true] at hz; split at hz <;> omega
  have hCd := Rows3D.rows (hC.toD (by omega))
  obtain ⟨ac, capc, rfl, _, _⟩ := Sl.shape hCd
  have HZ := Lib.hid hz
  rw [hz]
  clear hz
  go_wp2
  go_loopw [6, 18] (fun v kv wr => ∃ k : Nat, kv = .int .i64 k ∧ k ≤ (iCls P).length ∧ Ext wA wr ∧ Own wA.heap.size wr v ((iSizes P).take k)) (fun _ kv _ => (iCls P).length - (intOf kv).toNat)
  case atStart => exact ⟨0, rfl, by omega, Ext.refl _, World.ownsRow_nil _ _ _ _⟩
  case round =>
   obtain ⟨k, rfl, hk, hg, hO⟩ := hrel
   by_cases hlt : k < (iCls P).length
   ·have hlt' : (k : Int) < (iCls P).length := by omega
    obtain ⟨b3, o3, a3, c3, rfl, _, _, hc3, hi3⟩ := Rows3.at (hCd.ext hg) k hlt
    have hsl : (iSizes P).length = (iCls P).length := by simp [iSizes]
    have hsz : gt (iSizes P) k = ((gt (iCls P) k).length : Int) := gt_map _ _ _ hlt
    have htk : (iSizes P).take (k + 1) = (iSizes P).take k ++ [((gt (iCls P) k).length : Int)] := by
     rw [← hsz, List.take_add_one]; simp [gt, show k < (iSizes P).length by omega]
    have HT := Lib.hid (And.intro htk hsl); clear htk hsl hsz
    clear hi3
    go_wp2_with (at_builtin; go_must (refine wp_app_ints rfl _ _ rfl wA.heap.size _ ((iSizes P).take k) rfl (hO.ext0 (World.grownBy_alloc _ _ _)) _ [((gt (iCls P) k).length : Int)] rfl Any (Own.ints (World.ownsRow_lit wr #[.int .i64 ((gt (iCls P) k).length : Int)] 1 (Nat.zero_le _) (by decide) rfl) (by simp)) (by simp; omega) (by have := hg.size; simp; omega) ?_); intro v5 w5 hO5 hg5 _)
    have hgx : Ext wA w5 := grown_own (grown_trans hg (World.grownBy_alloc _ _ _)) hg5 (fun j hj hlt => by have := (hO.lt j hj).1; omega)
    go_roundw
    case rel => exact ⟨k + 1, by go_num, by omega, hgx, by rw [HT.out.1]; exact hO5⟩
    case measure => simp [intOf]; omega
   ·have hke : k = (iCls P).length := by omega
    subst hke
    have htk : (iSizes P).take (iCls P).length = iSizes P := List.take_of_length_le (by simp [iSizes])
    rw [htk] at hO
    clear htk
    obtain ⟨az, caps, rfl, _, _⟩ := (hO.ints (by simp [iSizes]; omega)).shape
    go_wp2
    exact bodyPost_ret (v := .tuple #[.slice az (iSizes P).length caps, .int .i64 0]) (by simp [results, Tryz.results61, go_sem]) rfl ⟨_, rfl, grown_trans hgw hg, _, by rw [HZ.out], .inr ⟨HZ.out, hO.weak hgw.size⟩⟩
end Go.Proofs.YtdcobapnlpeaaaaGreat
namespace Go.Proofs.YtdcobapnlpeaaaaGreat
open Go.Proofs Go.RowKit
open Classical in
set_option maxRecDepth 100000 in
set_option maxHeartbeats 8000000 in
theorem sClassSizes_ok (P : Pr) (hcls : rconsB P = true → ordP P ≤ 128 → ∀ k, k < (ordP P).toNat → 0 ≤ gt (rCls P).1 k ∧ gt (rCls P).1 k < (rCls P).2) (w : World) (pv : Value) (Sp : Nat → Prop) (hpv : PresV Sp w pv P) :
  Calls Tryz.prog 62 #[pv] w (Ret w fun w' v => ∃ r, v = .tuple #[r, .int .i64 (clsCode P (rconsB P))] ∧ ((clsCode P (rconsB P) ≠ 0 ∧ r = .slice none 0 0) ∨ (clsCode P (rconsB P) = 0 ∧ Own w.heap.size w' r (rSizes P)))) := by
 obtain ⟨vo, vp, vc, rfl, h3⟩ := hpv
 have hp0 := PresP.box h3 28
 have hg0 : Ext w (w.alloc (.cells #[vo, vp, vc] 28)) := World.grownBy_alloc _ _ _
 go_enter Tryz.func62, Tryz.ntmps62
 go_wp2_with fail
 refine Calls.mono (l18Code_ok P _ _ _ ⟨_, _, _, rfl, Pres3.ext h3 (World.grownBy_alloc _ _ _)⟩) ?_
 rintro eA wA ⟨vA, rfl, hgA, rfl⟩
 have hgw : Ext w wA := grown_trans hg0 hgA
 have hpA := hp0.ext hgA
 by_cases hz : clsCode P (rconsB P) = 0
 ·have hrc : rconsB P = true := by
   cases h : rconsB P
   ·rw [h] at hz; simp [clsCode] at hz
   ·rfl
  have h128 : ordP P ≤ 128 := by
   rw [hrc] at hz
   simp only [clsCode, if_true] at hz
   split at hz <;> omega
  have hP : Valid P := by
   unfold rconsB at hrc
   exact (of_decide_eq_true hrc).1
  have hcl := hcls hrc h128
  have HCL := Lib.hid hcl; clear hcl hcls hrc
  have hpos := hP.ordP_pos
  have hcn : (rCls P).2 ≤ (ordP P).toNat := clsTo_num P _
  obtain ⟨vo5, vp5, vc5, _, _, hb1, hb2, hb3, h3r⟩ := hpA.at
  simp at hb2 hb3
  rw [hz]
  go_wp2_with fail
  refine Calls.mono (l18Classes_ok P hP wA _ _ ⟨_, _, _, rfl, h3r⟩) ?_
  rintro eB wB ⟨vB, rfl, hgB, r, rfl, hO⟩
  have hlr : (rCls P).1.length = (ordP P).toNat := clsTo_len P _
  clear hb1 hb2 hb3
  obtain ⟨gL, capL, rfl, hgL, hgL'⟩ := hO.form (by rw [hlr]; omega)
  rw [hlr] at hO
  simp only [hlr]
  have HLR := Lib.hid hlr; clear hlr
  go_wp2_with (at_make; refine wp_make_ints rfl _ _ rfl wB.heap.size (rCls P).2 wB.heap.size rfl ((rCls P).2 : Nat) rfl rfl rfl (by omega) (Nat.le_refl _) ?_; intro wM hoM hgM hltM)
  have hgwM := grown_trans hgw (grown_trans hgB hgM)
  have hOM := hO.ext0 hgM
  go_loopw [8] (fun kv wr => ∃ k : Nat, kv = .int .i64 k ∧ k ≤ (ordP P).toNat ∧ wB.grownBy wr none ∧ Own wB.heap.size wr (.slice (some ⟨wB.heap.size, 0, none⟩) (rCls P).2 (rCls P).2) (cntTo (rCls P).1 (rCls P).2 k)) (fun kv _ => (ordP P).toNat - (intOf kv).toNat)
  case atStart => exact ⟨0, rfl, by omega, hgM, hoM⟩
  case round =>
   clear hoM hOM hgM hgwM
   obtain ⟨k, rfl, hk, hgo, hO2⟩ := hrel
   by_cases hlt : k < (ordP P).toNat
   ·have hlt' : (k : Int) < ordP P := by omega
    have hlt'' : (k : Int) < max (ordP P) 0 := by omega
    have hcL := (hO.ext0 hgo).cell k (by rw [HLR.out]; omega)
    have hb := HCL.out k hlt
    have hb0 := hb.1
    have hb1 := hb.2
    have hcC := hO2.cell (gt (rCls P).1 k).toNat (by rw [cntTo_len]; omega)
    have hfC := hO2.frozen (gt (rCls P).1 k).toNat
    have hbd := cntTo_bd (rCls P).1 (rCls P).2 k (gt (rCls P).1 k).toNat (by omega)
    obtain ⟨hO3, hgs⟩ := hO2.store (gt (rCls P).1 k).toNat (gt (cntTo (rCls P).1 (rCls P).2 k) (gt (rCls P).1 k).toNat + 1)
    have hgn : Ext wB (wr.setCell ⟨wB.heap.size, (gt (rCls P).1 k).toNat, none⟩ (.int .i64 (gt (cntTo (rCls P).1 (rCls P).2 k) (gt (rCls P).1 k).toNat + 1))) := grown_own hgo hgs (fun j hj hlt => by cases hj; omega)
    have hwr : IntKind.i64.wrap (gt (cntTo (rCls P).1 (rCls P).2 k) (gt (rCls P).1 k).toNat + 1) = gt (cntTo (rCls P).1 (rCls P).2 k) (gt (rCls P).1 k).toNat + 1 := IntWalk.i64_in _ (by have := hP.le729; have : ordP P ≤ 729 := hP.le729; omega)
    have e1 : ∀ w', Near wr wB.heap.size w' → w'.cell? ⟨gL, 0 + k, none⟩ = some (.int .i64 (gt (rCls P).1 k)) := fun w' h => h.cell (by simpa using hcL) (by simp; omega)
    have e2 : wr.drew.cell? ⟨wB.heap.size, (gt (rCls P).1 k).toNat, none⟩ = some (.int .i64 (gt (cntTo (rCls P).1 (rCls P).2 k) (gt (rCls P).1 k).toNat)) := hcC
    simp only [Nat.zero_add] at e1
    clear hgs hbd hb
    go_wp2
    go_still_tail 14, (by kernel_rfl)
    change wpList _ _ _ _ _ wr.drew
    have hgd := grown_trans hgn (grown_drew (wr.setCell ⟨wB.heap.size, (gt (rCls P).1 k).toNat, none⟩ (.int .i64 (gt (cntTo (rCls P).1 (rCls P).2 k) (gt (rCls P).1 k).toNat + 1))) none)
    have hOd := hO3.ext0 (grown_drew (wr.setCell ⟨wB.heap.size, (gt (rCls P).1 k).toNat, none⟩ (.int .i64 (gt (cntTo (rCls P).1 (rCls P).2 k) (gt (rCls P).1 k).toNat + 1))) none)
    have e3 := e1 wr.drew (Near.of (grown_drew _ _))
    have hfD : wr.drew.frozen? ⟨wB.heap.size, (gt (rCls P).1 k).toNat, none⟩ = false := hfC
    clear e1 hcL hcC hfC
    go_wp2
    go_roundw
    case rel => exact ⟨k + 1, by go_num, by omega, hgd, hOd⟩
    case measure => simp [intOf]; omega
   ·have hke : k = (ordP P).toNat := by omega
    subst hke
    go_wp2
    exact bodyPost_ret (v := .tuple #[.slice (some ⟨wB.heap.size, 0, none⟩) (rCls P).2 (rCls P).2, .int .i64 0]) (by simp [results, Tryz.results62, go_sem]) rfl ⟨_, rfl, grown_trans hgw (grown_trans hgB hgo), _, by rw [hz], .inr ⟨hz, hO2.weak (grown_trans hgw hgB).size⟩⟩
 ·have hz' : (clsCode P (rconsB P) != 0) = true := by simpa using hz
  go_wp2
  exact bodyPost_ret (v := .tuple #[.slice none 0 0, .int .i64 (clsCode P (rconsB P))]) (by simp [results, Tryz.results62, go_sem]) rfl ⟨_, rfl, hgw, _, rfl, .inl ⟨hz, rfl⟩⟩
end Go.Proofs.YtdcobapnlpeaaaaGreat
namespace Go.Proofs.YtdcobapnlpeaaaaGreat
open Go.RowKit
open Classical in
noncomputable def szL (P : Pr) : List Int := if clsCode P (iconsB P) = 0 then iSizes P else []
theorem szL_len (P : Pr) : (szL P).length ≤ 128 := by
 unfold szL
 split
 ·rename_i h
  have hlen : (iCls P).length ≤ (ordP P).toNat := iClsTo_len P _
  have h128 : ordP P ≤ 128 := by
   cases hi : iconsB P with
   | false => rw [hi] at h; simp [clsCode] at h
   | true => rw [hi] at h; simp only [clsCode, if_true] at h; split at h <;> omega
  unfold iSizes; rw [List.length_map]; omega
 ·simp
theorem iSizes2_ok (P : Pr) (w : World) (pv : Value) (Sp : Nat → Prop) (hpv : PresV Sp w pv P) :
  Calls Tryz.prog 61 #[pv] w (Ret w fun w' v => ∃ a n c, v = .tuple #[.slice a n c, .int .i64 (clsCode P (iconsB P))] ∧ Own w.heap.size w' (.slice a n c) (szL P)) := by
 refine Calls.mono (iClassSizes_ok P w pv Sp hpv) ?_
 rintro e w' ⟨v, rfl, hg, r, rfl, h⟩
 rcases h with ⟨hz, rfl⟩ | ⟨hz, hO⟩
 ·exact ⟨_, rfl, hg, _, _, _, rfl, by unfold szL; rw [if_neg hz]; exact World.ownsRow_nil _ _ _ _⟩
 ·have hl := szL_len P
  have e : szL P = iSizes P := by unfold szL; rw [if_pos hz]
  rw [e] at hl
  obtain ⟨a, c, rfl, _⟩ := (hO.ints (by omega)).shape
  exact ⟨_, rfl, hg, _, _, _, rfl, by rw [e]; exact hO⟩
theorem sSizes2_ok (P : Pr) (w : World) (pv : Value) (Sp : Nat → Prop) (hpv : PresV Sp w pv P) :
  Calls Tryz.prog 62 #[pv] w (Ret w fun w' v => ∃ a n c, v = .tuple #[.slice a n c, .int .i64 (clsCode P (iconsB P))] ∧ Own w.heap.size w' (.slice a n c) (szL P)) := by
 refine Calls.mono (sClassSizes_ok P (fun h _ => (grp_of_r h).rCls_bd) w pv Sp hpv) ?_
 rintro e w' ⟨v, rfl, hg, r, rfl, h⟩
 rw [← icons_eq P] at h ⊢
 rcases h with ⟨hz, rfl⟩ | ⟨hz, hO⟩
 ·exact ⟨_, rfl, hg, _, _, _, rfl, by unfold szL; rw [if_neg hz]; exact World.ownsRow_nil _ _ _ _⟩
 ·have hl := szL_len P
  have hr : rconsB P = true := by
   rw [← icons_eq P]
   cases hi : iconsB P with
   | false => rw [hi] at hz; simp [clsCode] at hz
   | true => rfl
  have e : szL P = rSizes P := by unfold szL; rw [if_pos hz]; exact (grp_of_r hr).sizes_eq
  rw [e] at hl
  obtain ⟨a, c, rfl, _⟩ := (hO.ints (by omega)).shape
  exact ⟨_, rfl, hg, _, _, _, rfl, by rw [e]; exact hO⟩
end Go.Proofs.YtdcobapnlpeaaaaGreat
namespace Go.Proofs.YtdcobapnlpeaaaaGreat
def repsOf (P : Pr) : List (List Int) := (iCls P).map (fun C => gt C 0)
section
variable {P : Pr} (G : Grp P)
include G
end
end Go.Proofs.YtdcobapnlpeaaaaGreat
namespace Go.Proofs.YtdcobapnlpeaaaaGreat
section
variable {P : Pr} (G : Grp P)
include G
theorem Grp.find_cls {y : List Int} (hy : Vec P.orders y) {r : Int} (h : FirstAt (fun i => bsFound (gt (iCls P) i) y) (iCls P).length r) : r = gt (rCls P).1 (num P y).toNat := by
 have I := G.cls_inv (ordP P).toNat (Nat.le_refl _)
 have hb := num_bd G.v hy
 have hey : elAt P (((num P y).toNat : Nat) : Int) = y := by
  rw [show (((num P y).toNat : Nat) : Int) = num P y by omega]; exact elAt_num G.v hy
 have hd := I.done (num P y).toNat (by omega)
 rcases I.at_ (num P y).toNat (by omega) with ⟨h1, _⟩ | ⟨j, h1, h2, h3, h4⟩
 ·omega
 ·rw [hey] at h3 h4
  have hj : bsFound (gt (iClsTo P (ordP P).toNat) j) y = true := by
   rw [bsFound_mem _ _ (I.ok _ (gt_mem h2)).so]; exact decide_eq_true h3
  rcases h with ⟨k, hk1, hk2, hk3, _⟩ | ⟨_, h6⟩
  ·have hin : y ∈ gt (iCls P) k := by
    have h7 : bsFound (gt (iClsTo P (ordP P).toNat) k) y = true := hk3
    rw [bsFound_mem _ _ (I.ok _ (gt_mem hk2)).so] at h7
    exact of_decide_eq_true h7
   have := h4 k hk2 hin
   show r = gt (clsTo P (ordP P).toNat).1 (num P y).toNat
   rw [h1, hk1, this]
  ·have h8 : bsFound (gt (iClsTo P (ordP P).toNat) j) y = false := h6 j h2
   rw [h8] at hj; cases hj
end
end Go.Proofs.YtdcobapnlpeaaaaGreat
namespace Go.Proofs.YtdcobapnlpeaaaaGreat
open Go.RowKit
def takeP (P : Pr) (has : List Int → Prop) (k : Nat) (y : List Int) : Prop := y ∈ (allEl P).take k ∧ has y
theorem takeP_zero (P : Pr) (has : List Int → Prop) : takeP P has 0 = fun _ => False := by
 funext y; unfold takeP; simp
theorem takeP_yes {P : Pr} {has : List Int → Prop} {k : Nat} (hk : k < (allEl P).length) (h : has (gt (allEl P) k)) : takeP P has (k + 1) = fun y => takeP P has k y ∨ y ∈ [gt (allEl P) k] :=
 funext fun y => propext (by
  unfold takeP
  rw [List.take_add_one, List.getElem?_eq_getElem hk, List.mem_append, gt_eq _ _ hk]
  simp only [Option.toList_some, List.mem_singleton]
  constructor
  ·rintro ⟨h1 | h1, h2⟩
   ·exact .inl ⟨h1, h2⟩
   ·exact .inr h1
  ·rintro (⟨h1, h2⟩ | h1)
   ·exact ⟨.inl h1, h2⟩
   ·exact ⟨.inr h1, by rw [h1, ← gt_eq _ _ hk]; exact h⟩)
theorem takeP_no {P : Pr} {has : List Int → Prop} {k : Nat} (hk : k < (allEl P).length) (h : ¬ has (gt (allEl P) k)) : takeP P has (k + 1) = takeP P has k :=
 funext fun y => propext (by
  unfold takeP
  rw [List.take_add_one, List.getElem?_eq_getElem hk, List.mem_append]
  simp only [Option.toList_some, List.mem_singleton]
  constructor
  ·rintro ⟨h1 | h1, h2⟩
   ·exact ⟨h1, h2⟩
   ·rw [h1, ← gt_eq _ _ hk] at h2; exact absurd h2 h
  ·rintro ⟨h1, h2⟩
   exact ⟨.inl h1, h2⟩)
theorem takeP_all {P : Pr} (hP : Valid P) (has : List Int → Prop) : takeP P has (allEl P).length = fun y => Vec P.orders y ∧ has y :=
 funext fun y => propext (by
  unfold takeP
  rw [List.take_length]
  have hm : y ∈ allEl P ↔ Vec P.orders y := by
   unfold allEl
   rw [List.mem_map]
   constructor
   ·rintro ⟨k, hk, rfl⟩
    exact elAt_vec hP _ (by omega)
   ·intro h
    have hb := num_bd hP h
    exact ⟨(num P y).toNat, by rw [List.mem_range]; omega, by rw [show (((num P y).toNat : Nat) : Int) = num P y by omega]; exact elAt_num hP h⟩
  rw [hm])
theorem genP_takeP_vec {P : Pr} (hP : Valid P) {has : List Int → Prop} {k : Nat} : ∀ y, takeP P has k y → Vec P.orders y := fun y h => by
 have := List.mem_of_mem_take h.1
 unfold allEl at this
 rw [List.mem_map] at this
 obtain ⟨j, hj, rfl⟩ := this
 exact elAt_vec hP _ (by omega)
end Go.Proofs.YtdcobapnlpeaaaaGreat
namespace Go.Proofs.YtdcobapnlpeaaaaGreat
open Go.RowKit
set_option maxRecDepth 100000 in
set_option maxHeartbeats 4000000 in
theorem elementsWithN_ok (P : Pr) (G : Grp P) (w : World) (p c1 c2 : Value) (has : List Int → Prop) (Sp : Nat → Prop) (hp : PresP Sp w p P)
  (hc : ∀ (w' : World) (xv : Value) (X : List Int) (Sx : Nat → Prop), Ext w w' → Ints Sx w' xv X → Vec P.orders X → Calls Tryz.prog 143 #[xv, c1, c2] w' (Ret w' fun _ v => ∃ r : Bool, v = .bool r ∧ (r = true ↔ has X))) :
  Calls Tryz.prog 142 #[p, .func (.func 143) #[] #[c1, c2]] w (Ret w fun w' v => RowsO w.heap.size w' v (cseq P (genP P (fun y => Vec P.orders y ∧ has y)))) := by
 have hP := G.v
 have hn6 := hP.n6
 have h729 : ordP P ≤ 729 := hP.le729
 have hpos := hP.ordP_pos
 obtain ⟨pb, po, rfl⟩ := hp.shape
 have HC := Lib.hid hc; clear hc
 go_enter Tryz.func142, Tryz.ntmps142
 go_wp2_with fail
 refine Calls.mono (newSequence_ok P w _ Sp (fun _ => False) hp hn6) ?_
 rintro e1 w1 ⟨v1, rfl, hg1, sb, gb, rfl, hs⟩
 have hgb := hs.tab.lt
 have hsb := hs.sB
 have hsl := hs.slt
 go_wp2_with fail
 refine Calls.mono (allElements_ok P hP w1 _ Sp (hp.ext hg1)) ?_
 rintro e2 w2 ⟨v2, rfl, hg2, hE⟩
 have hel : (allEl P).length = (ordP P).toNat := by simp [allEl]
 have hER : Rows2 (fun k => w1.heap.size ≤ k) w2 v2 (allEl P) := RowsD.rows (SlO.toD hE (by omega))
 obtain ⟨aE, capE, hvE, _, _⟩ := Sl.shape hER
 subst hvE
 obtain ⟨N, hN⟩ : ∃ N, N = (allEl P).length := ⟨_, rfl⟩
 rw [← hN]
 rw [← hN] at hER
 have hN729 : N ≤ 729 := by omega
 have hs2 := hs.kept (bad' := fun _ => False) hg2.size (fun k hk _ => hg2.block k hk (by simp)) (fun _ _ h => h)
 have hI0 : Ind P (genP P (takeP P has 0)) (gt (List.replicate P.orders.length ([] : List Int))) := by
  rw [takeP_zero, G.genP_none]; exact G.ind_one
 have hg02 := grown_trans hg1 hg2
 have hm1 : w1.heap.size ≤ w2.heap.size := hg2.size
 have HN := Lib.hid (And.intro hN hI0); clear hN hI0 hel hE h729 hpos hs
 go_wp2
 go_loopw [13] (fun iv wr => ∃ (k : Nat) (t : List (List Int)), iv = .int .i64 k ∧ k ≤ N ∧ w2.grownBy wr (some gb) ∧ SeqAt w.heap.size (fun _ => False) wr sb gb (.pointer (some ⟨pb, po, none⟩)) P.orders.length t ∧ Hid (Ind P (genP P (takeP P has k)) (gt t))) (fun iv _ => N - (intOf iv).toNat)
 case atStart => exact ⟨0, _, rfl, by omega, grown_refl _ _, hs2, Lib.hid HN.out.2⟩
 case round =>
  clear hs2
  obtain ⟨k, t, rfl, hk, hg, hs, hI⟩ := hrel
  have hgw : Ext w wr := grown_own hg02 hg (fun j hj hlt => by cases hj; omega)
  by_cases hlt : k < N
  ·have hlt' : (k : Int) < N := by omega
   have hkl : k < (allEl P).length := by rw [← HN.out.1]; exact hlt
   have hEr : Rows2 (fun k => w1.heap.size ≤ k) wr (.slice aE N capE) (allEl P) := Rows2.mono hER (frame_of hg (fun j hj _ => ⟨hj, fun e => by cases e; omega⟩))
   rw [HN.out.1] at hEr
   obtain ⟨bx, ox, a2, cap2, hab, _, _, hcx, hrx⟩ := Rows2.at hEr k hkl
   subst hab
   have hxV : Vec P.orders (gt (allEl P) k) := genP_takeP_vec hP (has := fun _ => True) (k := (allEl P).length) _ ⟨by rw [List.take_length]; exact gtMem hkl, trivial⟩
   obtain ⟨x, hx⟩ : ∃ x, x = gt (allEl P) k := ⟨_, rfl⟩
   rw [← hx] at hcx hrx hxV
   have hyes := takeP_yes (has := has) hkl
   have hno := takeP_no (has := has) hkl
   rw [← hx] at hyes hno
   have HX := Lib.hid (And.intro hxV (And.intro hyes hno)); clear hxV hyes hno hx
   have hcall := HC.out wr _ x _ hgw hrx HX.out.1
   go_wp2_with fail
   refine Calls.mono hcall ?_
   rintro e3 w3 ⟨v3, rfl, hg3, r, rfl, hr⟩
   clear hcall hcx
   have hg23 : w2.grownBy w3 (some gb) := grown_trans hg (grown_of_ext _ hg3)
   have hs3 := hs.kept (bad' := fun _ => False) hg3.size (fun k hk _ => hg3.block k hk (by simp)) (fun _ _ h => h)
   have hm3 : w1.heap.size ≤ w3.heap.size := by have := hg23.size; omega
   have hgw3 := grown_trans hgw hg3
   have hrx3 := Ints.ext hrx hg3
   cases r with
   | false =>
    have hI2 : Ind P (genP P (takeP P has (k + 1))) (gt t) := by
     rw [HX.out.2.2 (fun h => by have := hr.2 h; cases this)]; exact hI.out
    have HI2 := Lib.hid hI2; clear hI2 hr hI
    go_wp2
    go_roundw
    case rel => exact ⟨k + 1, t, by go_num, by omega, hg23, hs3, HI2⟩
    case measure => simp [intOf]; omega
   | true =>
    have hstep := HX.out.2.1 (hr.1 rfl)
    have HST := Lib.hid hstep; clear hstep hr
    have hgl : Ext w3 (w3.alloc (.cells #[.slice a2 x.length cap2] 24)) := World.grownBy_alloc _ _ _
    have hsl4 := hs3.kept (bad' := fun _ => False) hgl.size (fun k hk _ => hgl.block k hk (by simp)) (fun _ _ h => h)
    have hlit : Rows2 (fun k => ¬ (k = gb ∨ k = sb)) (w3.alloc (.cells #[.slice a2 x.length cap2] 24)) (.slice (some ⟨w3.heap.size, 0, none⟩) 1 1) [x] := by
     refine ⟨some ⟨w3.heap.size, 0, none⟩, 1, rfl, ⟨by simp, by simp, fun h => by cases h⟩, fun i hi => ⟨w3.heap.size, 0, .slice a2 x.length cap2, rfl, by omega, by simp, ?_, ?_⟩⟩
     ·have : i = 0 := by simpa using hi
      subst this
      rw [World.cell?_alloc_at _ _ _ _ rfl]; rfl
     ·have : i = 0 := by simpa using hi
      subst this
      exact Ints.sub (Ints.ext hrx3 hgl) (fun j hj _ => by
       have hj : w1.heap.size ≤ j := hj
       omega)
    have hx1 : ∀ y ∈ [x], Vec P.orders y := fun y hy => by rw [List.mem_singleton.1 hy]; exact HX.out.1
    have HL := Lib.hid (And.intro hlit hx1); clear hlit hx1
    have hgwl := grown_trans hgw3 hgl
    go_wp2_with fail
    refine Calls.mono (add_ok P G _ sb gb w.heap.size _ _ [x] t (genP P (takeP P has k)) (hp.mono (fun k _ hlt => ⟨by omega, Nat.lt_of_lt_of_le hlt hgwl.size, hgwl.block k hlt (by simp)⟩)) hsl4 hI.out HL.out.2 HL.out.1 (by simp)) ?_
    rintro e5 w5 ⟨t5, g5, rfl, hg5, hs5, hA, _, _⟩
    have hI5 : Ind P (genP P (takeP P has (k + 1))) (gt t5) := by
     rw [HST.out, ← genP_or]; exact hA
    have HI5 := Lib.hid hI5; clear hI5 hA
    have hg25 : w2.grownBy w5 (some gb) := grown_trans (grown_trans hg23 (grown_of_ext _ hgl)) hg5
    clear hI hs hs3 hsl4 hg5 hEr
    go_wp2
    go_roundw
    case rel => exact ⟨k + 1, t5, by go_num, by omega, hg25, hs5, HI5⟩
    case measure => simp [intOf]; omega
  ·have hke : k = N := by omega
   have hIn : Ind P (genP P (fun y => Vec P.orders y ∧ has y)) (gt t) := by
    have := hI.out
    rw [hke, HN.out.1, takeP_all hP] at this; exact this
   have HIn := Lib.hid hIn; clear hIn hI
   go_wp2_with fail
   refine Calls.mono (canonical_ok P G wr sb gb w.heap.size _ t _ _ _ (hp.ext hgw) hs HIn.out) ?_
   rintro e3 w3 ⟨v3, rfl, hg3, hO⟩
   go_wp2
   go_ret
   exact ⟨_, rfl, grown_trans hgw hg3, hO.weak hgw.size⟩
set_option maxRecDepth 100000 in
set_option maxHeartbeats 4000000 in
theorem elementsWithC_ok (P : Pr) (G : Grp P) (w : World) (p c1 c2 : Value) (has : List Int → Prop) (Sp : Nat → Prop) (hp : PresP Sp w p P)
  (hc : ∀ (w' : World) (xv : Value) (X : List Int) (Sx : Nat → Prop), Ext w w' → Ints Sx w' xv X → Vec P.orders X → Calls Tryz.prog 234 #[xv, c1, c2] w' (Ret w' fun _ v => ∃ r : Bool, v = .bool r ∧ (r = true ↔ has X))) :
  Calls Tryz.prog 142 #[p, .func (.func 234) #[] #[c1, c2]] w (Ret w fun w' v => RowsO w.heap.size w' v (cseq P (genP P (fun y => Vec P.orders y ∧ has y)))) := by
 have hP := G.v
 have hn6 := hP.n6
 have h729 : ordP P ≤ 729 := hP.le729
 have hpos := hP.ordP_pos
 obtain ⟨pb, po, rfl⟩ := hp.shape
 have HC := Lib.hid hc; clear hc
 go_enter Tryz.func142, Tryz.ntmps142
 go_wp2_with fail
 refine Calls.mono (newSequence_ok P w _ Sp (fun _ => False) hp hn6) ?_
 rintro e1 w1 ⟨v1, rfl, hg1, sb, gb, rfl, hs⟩
 have hgb := hs.tab.lt
 have hsb := hs.sB
 have hsl := hs.slt
 go_wp2_with fail
 refine Calls.mono (allElements_ok P hP w1 _ Sp (hp.ext hg1)) ?_
 rintro e2 w2 ⟨v2, rfl, hg2, hE⟩
 have hel : (allEl P).length = (ordP P).toNat := by simp [allEl]
 have hER : Rows2 (fun k => w1.heap.size ≤ k) w2 v2 (allEl P) := RowsD.rows (SlO.toD hE (by omega))
 obtain ⟨aE, capE, hvE, _, _⟩ := Sl.shape hER
 subst hvE
 obtain ⟨N, hN⟩ : ∃ N, N = (allEl P).length := ⟨_, rfl⟩
 rw [← hN]
 rw [← hN] at hER
 have hN729 : N ≤ 729 := by omega
 have hs2 := hs.kept (bad' := fun _ => False) hg2.size (fun k hk _ => hg2.block k hk (by simp)) (fun _ _ h => h)
 have hI0 : Ind P (genP P (takeP P has 0)) (gt (List.replicate P.orders.length ([] : List Int))) := by
  rw [takeP_zero, G.genP_none]; exact G.ind_one
 have hg02 := grown_trans hg1 hg2
 have hm1 : w1.heap.size ≤ w2.heap.size := hg2.size
 have HN := Lib.hid (And.intro hN hI0); clear hN hI0 hel hE h729 hpos hs
 go_wp2
 go_loopw [13] (fun iv wr => ∃ (k : Nat) (t : List (List Int)), iv = .int .i64 k ∧ k ≤ N ∧ w2.grownBy wr (some gb) ∧ SeqAt w.heap.size (fun _ => False) wr sb gb (.pointer (some ⟨pb, po, none⟩)) P.orders.length t ∧ Hid (Ind P (genP P (takeP P has k)) (gt t))) (fun iv _ => N - (intOf iv).toNat)
 case atStart => exact ⟨0, _, rfl, by omega, grown_refl _ _, hs2, Lib.hid HN.out.2⟩
 case round =>
  clear hs2
  obtain ⟨k, t, rfl, hk, hg, hs, hI⟩ := hrel
  have hgw : Ext w wr := grown_own hg02 hg (fun j hj hlt => by cases hj; omega)
  by_cases hlt : k < N
  ·have hlt' : (k : Int) < N := by omega
   have hkl : k < (allEl P).length := by rw [← HN.out.1]; exact hlt
   have hEr : Rows2 (fun k => w1.heap.size ≤ k) wr (.slice aE N capE) (allEl P) := Rows2.mono hER (frame_of hg (fun j hj _ => ⟨hj, fun e => by cases e; omega⟩))
   rw [HN.out.1] at hEr
   obtain ⟨bx, ox, a2, cap2, hab, _, _, hcx, hrx⟩ := Rows2.at hEr k hkl
   subst hab
   have hxV : Vec P.orders (gt (allEl P) k) := genP_takeP_vec hP (has := fun _ => True) (k := (allEl P).length) _ ⟨by rw [List.take_length]; exact gtMem hkl, trivial⟩
   obtain ⟨x, hx⟩ : ∃ x, x = gt (allEl P) k := ⟨_, rfl⟩
   rw [← hx] at hcx hrx hxV
   have hyes := takeP_yes (has := has) hkl
   have hno := takeP_no (has := has) hkl
   rw [← hx] at hyes hno
   have HX := Lib.hid (And.intro hxV (And.intro hyes hno)); clear hxV hyes hno hx
   have hcall := HC.out wr _ x _ hgw hrx HX.out.1
   go_wp2_with fail
   refine Calls.mono hcall ?_
   rintro e3 w3 ⟨v3, rfl, hg3, r, rfl, hr⟩
   clear hcall hcx
   have hg23 : w2.grownBy w3 (some gb) := grown_trans hg (grown_of_ext _ hg3)
   have hs3 := hs.kept (bad' := fun _ => False) hg3.size (fun k hk _ => hg3.block k hk (by simp)) (fun _ _ h => h)
   have hm3 : w1.heap.size ≤ w3.heap.size := by have := hg23.size; omega
   have hgw3 := grown_trans hgw hg3
   have hrx3 := Ints.ext hrx hg3
   cases r with
   | false =>
    have hI2 : Ind P (genP P (takeP P has (k + 1))) (gt t) := by
     rw [HX.out.2.2 (fun h => by have := hr.2 h; cases this)]; exact hI.out
    have HI2 := Lib.hid hI2; clear hI2 hr hI
    go_wp2
    go_roundw
    case rel => exact ⟨k + 1, t, by go_num, by omega, hg23, hs3, HI2⟩
    case measure => simp [intOf]; omega
   | true =>
    have hstep := HX.out.2.1 (hr.1 rfl)
    have HST := Lib.hid hstep; clear hstep hr
    have hgl : Ext w3 (w3.alloc (.cells #[.slice a2 x.length cap2] 24)) := World.grownBy_alloc _ _ _
    have hsl4 := hs3.kept (bad' := fun _ => False) hgl.size (fun k hk _ => hgl.block k hk (by simp)) (fun _ _ h => h)
    have hlit : Rows2 (fun k => ¬ (k = gb ∨ k = sb)) (w3.alloc (.cells #[.slice a2 x.length cap2] 24)) (.slice (some ⟨w3.heap.size, 0, none⟩) 1 1) [x] := by
     refine ⟨some ⟨w3.heap.size, 0, none⟩, 1, rfl, ⟨by simp, by simp, fun h => by cases h⟩, fun i hi => ⟨w3.heap.size, 0, .slice a2 x.length cap2, rfl, by omega, by simp, ?_, ?_⟩⟩
     ·have : i = 0 := by simpa using hi
      subst this
      rw [World.cell?_alloc_at _ _ _ _ rfl]; rfl
     ·have : i = 0 := by simpa using hi
      subst this
      exact Ints.sub (Ints.ext hrx3 hgl) (fun j hj _ => by
       have hj : w1.heap.size ≤ j := hj
       omega)
    have hx1 : ∀ y ∈ [x], Vec P.orders y := fun y hy => by rw [List.mem_singleton.1 hy]; exact HX.out.1
    have HL := Lib.hid (And.intro hlit hx1); clear hlit hx1
    have hgwl := grown_trans hgw3 hgl
    go_wp2_with fail
    refine Calls.mono (add_ok P G _ sb gb w.heap.size _ _ [x] t (genP P (takeP P has k)) (hp.mono (fun k _ hlt => ⟨by omega, Nat.lt_of_lt_of_le hlt hgwl.size, hgwl.block k hlt (by simp)⟩)) hsl4 hI.out HL.out.2 HL.out.1 (by simp)) ?_
    rintro e5 w5 ⟨t5, g5, rfl, hg5, hs5, hA, _, _⟩
    have hI5 : Ind P (genP P (takeP P has (k + 1))) (gt t5) := by
     rw [HST.out, ← genP_or]; exact hA
    have HI5 := Lib.hid hI5; clear hI5 hA
    have hg25 : w2.grownBy w5 (some gb) := grown_trans (grown_trans hg23 (grown_of_ext _ hgl)) hg5
    clear hI hs hs3 hsl4 hg5 hEr
    go_wp2
    go_roundw
    case rel => exact ⟨k + 1, t5, by go_num, by omega, hg25, hs5, HI5⟩
    case measure => simp [intOf]; omega
  ·have hke : k = N := by omega
   have hIn : Ind P (genP P (fun y => Vec P.orders y ∧ has y)) (gt t) := by
    have := hI.out
    rw [hke, HN.out.1, takeP_all hP] at this; exact this
   have HIn := Lib.hid hIn; clear hIn hI
   go_wp2_with fail
   refine Calls.mono (canonical_ok P G wr sb gb w.heap.size _ t _ _ _ (hp.ext hgw) hs HIn.out) ?_
   rintro e3 w3 ⟨v3, rfl, hg3, hO⟩
   go_wp2
   go_ret
   exact ⟨_, rfl, grown_trans hgw hg3, hO.weak hgw.size⟩
end Go.Proofs.YtdcobapnlpeaaaaGreat
namespace Go.Proofs.YtdcobapnlpeaaaaGreat
open Go.RowKit
theorem genP_idem {P : Pr} {H : List Int → Prop} (S : Sub P H) : genP P H = H :=
 funext fun _ => propext ⟨fun h => h H S (fun _ h => h), fun h => genP_mem h⟩
end Go.Proofs.YtdcobapnlpeaaaaGreat
namespace Go.Proofs.YtdcobapnlpeaaaaGreat
open Go.RowKit
def czP (P : Pr) (U : List (List Int)) (x : List Int) : Prop := Vec P.orders x ∧ ∀ y ∈ U, rMul P y x = rMul P x y
theorem Grp.cz_sub {P : Pr} (G : Grp P) {U : List (List Int)} (hU : ∀ y ∈ U, Vec P.orders y) : Sub P (czP P U) := by
 refine ⟨fun _ h => h.1, ⟨G.oneV, fun y hy => by rw [G.grp.er _ (hU y hy), G.grp.el _ (hU y hy)]⟩, fun x z hx hz => ⟨G.mulV hx.1 hz.1, fun y hy => ?_⟩, fun x hx => ⟨G.invV hx.1, fun y hy => ?_⟩⟩
 ·have hyV := hU y hy
  rw [← G.ass hyV hx.1 hz.1, hx.2 y hy, G.ass hx.1 hyV hz.1, hz.2 y hy, G.ass hx.1 hz.1 hyV]
 ·have hyV := hU y hy
  have hi := G.invV hx.1
  have e : rMul P (rInv P x) (rMul P (rMul P y x) (rInv P x)) = rMul P (rInv P x) (rMul P (rMul P x y) (rInv P x)) := by rw [hx.2 y hy]
  rw [G.ass hyV hx.1 hi, G.mul_inv hx.1, G.grp.er _ hyV, G.ass hx.1 hyV hi, ← G.ass hi hx.1 (G.mulV hyV hi), G.inv_mul hx.1, G.grp.el _ (G.mulV hyV hi)] at e
  exact e.symm
set_option maxRecDepth 100000 in
set_option maxHeartbeats 4000000 in
theorem czCl_ok (P : Pr) (G : Grp P) (w : World) (p uv xv : Value) (c1 c2 : Nat) (U : List (List Int)) (X : List Int) (Sp Su Sx : Nat → Prop) (hp : PresP Sp w p P) (hu : Rows2 Su w uv U) (h1 : w.cell? ⟨c1, 0, none⟩ = some uv) (h2 : w.cell? ⟨c2, 0, none⟩ = some p) (hx : Ints Sx w xv X) (hU : ∀ x ∈ U, Vec P.orders x) (hX : Vec P.orders X) :
  Calls Tryz.prog 234 #[xv, .pointer (some ⟨c1, 0, none⟩), .pointer (some ⟨c2, 0, none⟩)] w (Ret w fun _ v => ∃ r : Bool, v = .bool r ∧ (r = true ↔ ∀ y ∈ U, rMul P y X = rMul P X y)) := by
 have hP := G.v
 have hn6 := hP.n6
 obtain ⟨pb, po, rfl⟩ := hp.shape
 obtain ⟨au, capu, rfl, _, hul⟩ := Sl.shape hu
 obtain ⟨ax, capx, rfl, _, _⟩ := hx.shape
 have HU := Lib.hid (And.intro hU hX); clear hU hX
 go_enter Tryz.func234, Tryz.ntmps234
 go_wp2
 go_loopw [9] (fun iv wr => ∃ (i : Nat), iv = .int .i64 i ∧ i ≤ U.length ∧ Ext w wr ∧ Hid (∀ k, k < i → rMul P (gt U k) X = rMul P X (gt U k))) (fun iv _ => U.length - (intOf iv).toNat)
 case atStart => exact ⟨0, rfl, by omega, grown_refl _ _, Lib.hid (fun k hk => by omega)⟩
 case round =>
  clear h1
  obtain ⟨i, rfl, hi, hg, hH⟩ := hrel
  by_cases hlt : i < U.length
  ·have hlt' : (i : Int) < U.length := by omega
   obtain ⟨b, off, ay, capy, rfl, _, _, hc, hy⟩ := Rows2.at hu i hlt
   have hcr := hg.cell hc (by simp)
   have hyV := HU.out.1 _ (gtMem hlt)
   obtain ⟨y, hye⟩ : ∃ y, y = gt U i := ⟨_, rfl⟩
   rw [← hye] at hcr hy hyV
   have hy1 := Ints.ext hy hg
   have hx1 := Ints.ext hx hg
   have hp1 := hp.ext hg
   have m1 := G.mulV hyV HU.out.2
   have m2 := G.mulV HU.out.2 hyV
   have t1 := G.tv_eq hyV HU.out.2
   have t2 := G.tv_eq HU.out.2 hyV
   have HY := Lib.hid (And.intro hye (And.intro hyV (And.intro m1 (And.intro m2 (And.intro t1 t2))))); clear hye hyV hc m1 m2 t1 t2
   have f1 : ∀ w', Ext wr w' → w'.cell? ⟨c2, 0, none⟩ = some (.pointer (some ⟨pb, po, none⟩)) := fun w' h => (grown_trans hg h).cell h2 (by simp)
   go_wp2
   clear hcr
   go_region_held3 (fun w' => Ext wr w') (first | exact grown_drew _ _ | assumption)
    (first
     | (go_at_call 152; refine Calls.mono (Calls.rel2 (w0 := wr) (by assumption) (multiply_ok P hP _ _ _ _ y X Sp Su Sx (hp1.ext (by assumption)) (Ints.ext hy1 (by assumption)) (Ints.ext hx1 (by assumption)) HY.out.2.1 HU.out.2)) ?_; rintro eA wA ⟨vA, rfl, hgA, hgA2, hsA, hOA⟩; rw [HY.out.2.2.2.2.1] at hOA; have hAi := hOA.ints (by rw [HY.out.2.2.1.1]; omega))
     | (go_at_call 152; refine Calls.mono (Calls.rel2 (w0 := wr) (by assumption) (multiply_ok P hP _ _ _ _ X y Sp Sx Su (hp1.ext (by assumption)) (Ints.ext hx1 (by assumption)) (Ints.ext hy1 (by assumption)) HU.out.2 HY.out.2.1)) ?_; rintro eB wB ⟨vB, rfl, hgB, hgB2, hsB, hOB⟩; rw [HY.out.2.2.2.2.2] at hOB; have hBi := hOB.ints (by rw [HY.out.2.2.2.1.1]; omega); have hAB := Ints.ext hAi hgB2)
     | (go_at_call 151; refine Calls.mono (Calls.rel (w0 := wr) (by assumption) (sEqual_ok _ _ _ _ _ Any Any hAB hBi)) ?_; rintro eE wE ⟨vE, rfl, hgE, hsE, rfl⟩))
   clear f1
   by_cases he : rMul P y X = rMul P X y
   ·have hb : eqB (rMul P y X) (rMul P X y) = true := eqB_true.2 he
    have HE := Lib.hid he; clear he
    rw [hb]
    go_wp2
    go_roundw
    case rel => exact ⟨i + 1, by go_num, by omega, grown_trans hg hgE, Lib.hid (fun k hk => by
     rcases Nat.lt_succ_iff_lt_or_eq.1 hk with h | h
     ·exact hH.out k h
     ·rw [h, ← HY.out.1]; exact HE.out)⟩
    case measure => simp [intOf]; omega
   ·have hb : eqB (rMul P y X) (rMul P X y) = false := eqB_false.2 he
    have HE := Lib.hid he; clear he
    rw [hb]
    go_wp2
    go_ret
    exact ⟨_, rfl, grown_trans hg hgE, false, rfl, by
     constructor
     ·intro h; cases h
     ·intro h
      exact absurd (by rw [HY.out.1]; exact h _ (gtMem hlt)) HE.out⟩
  ·have hie : i = U.length := by omega
   have HF := Lib.hid (show ∀ y ∈ U, rMul P y X = rMul P X y from fun y hy => by
    obtain ⟨m, hm, rfl⟩ := mem_gt hy
    exact hH.out m (by omega))
   go_wp2
   go_ret
   first
    | exact ⟨_, rfl, hg, true, rfl, by simpa using HF.out⟩
    | exact ⟨_, rfl, hg, .inr ⟨rfl, HF.out⟩⟩
set_option maxRecDepth 100000 in
set_option maxHeartbeats 4000000 in
theorem centralizer_ok (P : Pr) (G : Grp P) (w : World) (p uv : Value) (U : List (List Int)) (Sp Su : Nat → Prop) (hp : PresP Sp w p P) (hu : Rows2 Su w uv U) (hU : ∀ x ∈ U, Vec P.orders x) :
  Calls Tryz.prog 144 #[p, uv] w (Ret w fun w' v => RowsO w.heap.size w' v (cseq P (czP P U))) := by
 have hn6 := G.v.n6
 obtain ⟨pb, po, rfl⟩ := hp.shape
 obtain ⟨au, capu, rfl, _, _⟩ := Sl.shape hu
 have hs0 : (w.alloc (.cells #[.pointer (some ⟨pb, po, none⟩)] 86)).heap.size = w.heap.size + 1 := by simp
 have hg0 : Ext w (w.alloc (.cells #[.pointer (some ⟨pb, po, none⟩)] 86)) := World.grownBy_alloc _ _ _
 have hg1 : Ext (w.alloc (.cells #[.pointer (some ⟨pb, po, none⟩)] 86)) ((w.alloc (.cells #[.pointer (some ⟨pb, po, none⟩)] 86)).alloc (.cells #[.slice au U.length capu] 25)) := World.grownBy_alloc _ _ _
 have hc0 : (w.alloc (.cells #[.pointer (some ⟨pb, po, none⟩)] 86)).cell? ⟨w.heap.size, 0, none⟩ = some (.pointer (some ⟨pb, po, none⟩)) := by rw [World.cell?_alloc_at _ _ _ _ rfl]; rfl
 have hc1 : ((w.alloc (.cells #[.pointer (some ⟨pb, po, none⟩)] 86)).alloc (.cells #[.slice au U.length capu] 25)).cell? ⟨w.heap.size + 1, 0, none⟩ = some (.slice au U.length capu) := by
  rw [← hs0, World.cell?_alloc_at _ _ _ _ rfl]; rfl
 have hc2 := hg1.cell hc0 (by simp)
 have hg01 := grown_trans hg0 hg1
 go_enter Tryz.func144, Tryz.ntmps144
 go_wp2_with fail
 clear hc0 hg0 hg1 hs0
 generalize (w.alloc (.cells #[.pointer (some ⟨pb, po, none⟩)] 86)).alloc (.cells #[.slice au U.length capu] 25) = w1 at *
 have hp1 := hp.ext hg01
 have hu1 := Rows2.ext hu hg01
 have hE := elementsWithC_ok P G w1 (.pointer (some ⟨pb, po, none⟩)) (.pointer (some ⟨w.heap.size + 1, 0, none⟩)) (.pointer (some ⟨w.heap.size, 0, none⟩)) (fun x => ∀ y ∈ U, rMul P y x = rMul P x y) Sp hp1 (fun w' xv X Sx hg hx hX => czCl_ok P G w' _ _ xv (w.heap.size + 1) w.heap.size U X Sp Su Sx (hp1.ext hg) (Rows2.ext hu1 hg) (hg.cell hc1 (by simp)) (hg.cell hc2 (by simp)) hx hU hX)
 have hcz : genP P (fun y => Vec P.orders y ∧ ∀ z ∈ U, rMul P z y = rMul P y z) = czP P U := genP_idem (G.cz_sub hU)
 rw [hcz] at hE
 have HE := Lib.hid hE; clear hE hcz hc1 hc2 hU
 refine Calls.mono HE.out ?_
 rintro e2 w2 ⟨v2, rfl, hg2, hO⟩
 have HO := Lib.hid hO; clear hO
 go_wp2
 go_ret
 exact ⟨_, rfl, grown_trans hg01 hg2, HO.out.weak hg01.size⟩
end Go.Proofs.YtdcobapnlpeaaaaGreat
namespace Go.Proofs.YtdcobapnlpeaaaaGreat
open Go.RowKit
set_option maxRecDepth 100000 in
set_option maxHeartbeats 2000000 in
theorem areElements_ok (Q : Pr) (w : World) (p lv : Value) (L : List (List Int)) (Sp Sl' : Nat → Prop) (hp : PresP Sp w p Q) (hl : Rows2 Sl' w lv L) :
  Calls Tryz.prog 133 #[p, lv] w (Ret w fun _ v => ∃ r : Bool, v = .bool r ∧ (r = true ↔ rconsB Q = true ∧ ∀ x ∈ L, Vec Q.orders x)) := by
 obtain ⟨pb, po, rfl⟩ := hp.shape
 obtain ⟨al, capl, rfl, _, _⟩ := Sl.shape hl
 obtain ⟨vo, vp, vc, _, _, hc0, hc1, hc2, h3⟩ := hp.at
 obtain ⟨ao, capo, rfl, _, _⟩ := h3.o.shape
 obtain ⟨ap, capp, rfl, _, _⟩ := Sl.shape h3.p
 obtain ⟨ac, capc, rfl, _, _⟩ := Sl.shape h3.c
 have hcon := isConsistent_ok Q w (.agg #[.slice ao Q.orders.length capo, .slice ap Q.powers.length capp, .slice ac Q.conj.length capc]) Sp ⟨_, _, _, rfl, h3⟩
 rw [icons_eq] at hcon
 go_enter Tryz.func133, Tryz.ntmps133
 go_wp2_with fail
 refine Calls.mono hcon ?_
 rintro e1 w1 ⟨v, rfl, hg1, rfl⟩
 clear hcon
 cases hq : rconsB Q with
 | false =>
  have HQ := Lib.hid hq; clear hq
  go_wp2
  go_ret
  exact ⟨_, rfl, hg1, false, rfl, by simp only [Bool.false_eq_true, false_iff]; rintro ⟨h, _⟩; rw [HQ.out] at h; cases h⟩
 | true =>
  have G := grp_of_r hq
  have hn6 := G.v.n6
  have HQ := Lib.hid hq; clear hq hc0 hc1 hc2
  go_wp2
  go_loopw [14] (fun jv wr => ∃ j : Nat, jv = .int .i64 j ∧ j ≤ L.length ∧ Ext w wr ∧ Hid (∀ l, l < j → Vec Q.orders (gt L l))) (fun jv _ => L.length - (intOf jv).toNat)
  case atStart => exact ⟨0, rfl, by omega, hg1, Lib.hid (fun j h => by omega)⟩
  case round =>
   obtain ⟨j, rfl, hj, hg, hV⟩ := hrel
   by_cases hjl : j < L.length
   ·have hjl' : (j : Int) < L.length := by omega
    obtain ⟨b3, off3, a3, cap3, rfl, _, _, hc3, hr3⟩ := Rows2.at (Rows2.ext hl hg) j hjl
    have hex := isExponents_ok wr _ _ Q (gt L j) Sp Sl' (hp.ext hg) hr3 (fun i hi => by have := G.v.ord7 i hi; omega)
    cases hb : expB Q.orders (gt L j) with
    | true =>
     rw [hb] at hex
     have HB := Lib.hid (expB_vec.1 hb); clear hb
     go_wp2_with fail
     refine Calls.mono hex ?_
     rintro eE wE ⟨rfl, rfl⟩
     clear hex
     go_wp2
     go_roundw
     case rel => exact ⟨j + 1, by go_num, by omega, hg, Lib.hid (fun l hl => by
      rcases Nat.lt_succ_iff_lt_or_eq.1 hl with h | h
      ·exact hV.out l h
      ·rw [h]; exact HB.out)⟩
     case measure => simp [intOf]; omega
    | false =>
     rw [hb] at hex
     have hno : ¬ ∀ x ∈ L, Vec Q.orders x := fun h => by
      have := expB_vec.2 (h _ (gtMem hjl))
      rw [hb] at this; cases this
     have HB := Lib.hid hno; clear hb hno
     go_wp2_with fail
     refine Calls.mono hex ?_
     rintro eE wE ⟨rfl, rfl⟩
     clear hex
     go_wp2
     go_ret
     exact ⟨_, rfl, hg, false, rfl, by simp only [Bool.false_eq_true, false_iff]; rintro ⟨_, h⟩; exact HB.out h⟩
   ·have hke : j = L.length := by omega
    subst hke
    go_wp2
    go_ret
    exact ⟨_, rfl, hg, true, rfl, by
     simp only [true_iff]
     refine ⟨HQ.out, fun x hx => ?_⟩
     obtain ⟨l, hl, rfl⟩ := List.getElem_of_mem hx
     rw [← gt_eq L l hl]; exact hV.out l hl⟩
end Go.Proofs.YtdcobapnlpeaaaaGreat
namespace Go.Proofs.YtdcobapnlpeaaaaGreat
open Go.RowKit
theorem rowsE1 {w : World} {v : Value} {l : List Int} {S : Nat → Prop} (h : Ints S w v l) : Rows2 Any (w.alloc (.cells #[v] 24)) (.slice (some ⟨w.heap.size, 0, none⟩) 1 1) [l] := by
 have hg : Ext w (w.alloc (.cells #[v] 24)) := World.grownBy_alloc _ _ _
 refine ⟨_, 1, rfl, ⟨by simp, by simp, fun h => by cases h⟩, fun i hi => ?_⟩
 obtain rfl : i = 0 := by simp at hi; omega
 exact ⟨w.heap.size, 0, v, rfl, trivial, by simp, by rw [World.cell?_alloc_at _ _ _ _ rfl]; rfl, Ints.sub (Ints.ext h hg) (fun _ _ _ => trivial)⟩
end Go.Proofs.YtdcobapnlpeaaaaGreat
namespace Go.Proofs.YtdcobapnlpeaaaaGreat
open Go.RowKit
theorem rowsE2 {w : World} {v1 v2 : Value} {l1 l2 : List Int} {S1 S2 : Nat → Prop} (h1 : Ints S1 w v1 l1) (h2 : Ints S2 w v2 l2) : Rows2 Any (w.alloc (.cells #[v1, v2] 24)) (.slice (some ⟨w.heap.size, 0, none⟩) 2 2) [l1, l2] := by
 have hg : Ext w (w.alloc (.cells #[v1, v2] 24)) := World.grownBy_alloc _ _ _
 refine ⟨_, 2, rfl, ⟨by simp, by simp, fun h => by cases h⟩, fun i hi => ?_⟩
 have : i = 0 ∨ i = 1 := by simp at hi; omega
 rcases this with rfl | rfl
 ·exact ⟨w.heap.size, 0, v1, rfl, trivial, by simp, by rw [World.cell?_alloc_at _ _ _ _ rfl]; rfl, Ints.sub (Ints.ext h1 hg) (fun _ _ _ => trivial)⟩
 ·exact ⟨w.heap.size, 0, v2, rfl, trivial, by simp, by rw [World.cell?_alloc_at _ _ _ _ rfl]; rfl, Ints.sub (Ints.ext h2 hg) (fun _ _ _ => trivial)⟩
set_option maxRecDepth 100000 in
set_option maxHeartbeats 4000000 in
theorem iConE_ok (P : Pr) (hr : rconsB P = true) (w : World) (pv xv yv : Value) (X Y : List Int) (Sp Sx Sy : Nat → Prop) (hpv : PresV Sp w pv P) (hx : Ints Sx w xv X) (hy : Ints Sy w yv Y) (hX : Vec P.orders X) (hY : Vec P.orders Y) :
  Calls Tryz.prog 50 #[pv, xv, yv] w (Ret w fun w' v => ∃ a n c, v = .tuple #[.slice a n c, .int .i64 0] ∧ Own w.heap.size w' (.slice a n c) (rConj P X Y)) := by
 have G := grp_of_r hr
 have hn6 := G.v.n6
 obtain ⟨vo, vp, vc, rfl, h3⟩ := hpv
 have hp0 := PresP.box h3 28
 have hg0 : Ext w (w.alloc (.cells #[vo, vp, vc] 28)) := World.grownBy_alloc _ _ _
 have hs0 : (w.alloc (.cells #[vo, vp, vc] 28)).heap.size = w.heap.size + 1 := by simp
 have hx0 := Ints.ext hx hg0
 obtain ⟨ax, capx, rfl, _, _⟩ := hx.shape
 have hy0 := Ints.ext hy hg0
 obtain ⟨ay, capy, rfl, _, _⟩ := hy.shape
 have hg1 : Ext (w.alloc (.cells #[vo, vp, vc] 28)) ((w.alloc (.cells #[vo, vp, vc] 28)).alloc (.cells #[.slice ax X.length capx, .slice ay Y.length capy] 24)) := World.grownBy_alloc _ _ _
 have hl := rowsE2 hx0 hy0
 have hcon := areElements_ok P _ _ _ [X, Y] Any Any (hp0.ext hg1) hl
 rw [hs0] at hcon
 clear hl hx hy
 have HH := Lib.hid (And.intro hr (And.intro hX ( And.intro hY ((trivial : True))))); clear hr hX hY
 go_enter Tryz.func50, Tryz.ntmps50
 go_wp2_with fail
 refine Calls.mono hcon ?_
 rintro e1 w1 ⟨v1, rfl, hgA, r1, rfl, hr1⟩
 clear hcon
 obtain rfl : r1 = true := hr1.2 (by have := HH.out; simp only [List.mem_cons, List.mem_nil_iff, or_false]; exact ⟨this.1, fun u hu => by rcases hu with rfl | rfl; exact this.2.1; exact this.2.2.1⟩)
 clear hr1
 have hg01 := grown_trans hg1 hgA
 have HS := Lib.hid hs0; clear hs0
 generalize hw0 : (w.alloc (.cells #[vo, vp, vc] 28)) = w0 at *
 clear hw0 hg1 hgA
 have hp1 := hp0.ext hg01
 have hx1 := Ints.ext hx0 hg01
 have hy1 := Ints.ext hy0 hg01
 go_wp2_with fail
 refine Calls.mono (conjugate_ok P G.v w1 _ _ _ X Y Any Sx Sy hp1 hx1 hy1 HH.out.2.1 HH.out.2.2.1) ?_
 rintro e2 w2 ⟨v2, rfl, hg2, hO⟩
 rw [G.iConj_eq HH.out.2.1 HH.out.2.2.1] at hO
 obtain ⟨ad, nd, capd, hvd⟩ : ∃ a n c, v2 = Value.slice a n c := by obtain ⟨a, c, e, _⟩ := (hO.ints (by rw [(G.conjV HH.out.2.1 HH.out.2.2.1).1]; omega)).shape; exact ⟨_, _, _, e⟩
 subst hvd
 go_wp2
 go_ret2
 exact ⟨_, rfl, grown_trans hg0 (grown_trans hg01 hg2), _, _, _, rfl, hO.weak (by have := hg01.size; have := hg0.size; omega)⟩
set_option maxRecDepth 100000 in
set_option maxHeartbeats 4000000 in
theorem iClsNo_ok (P : Pr) (hr : rconsB P = true) (w : World) (pv xv : Value) (X : List Int) (Sp Sx : Nat → Prop) (hpv : PresV Sp w pv P) (hx : Ints Sx w xv X) (hX : Vec P.orders X) (h128 : ordP P ≤ 128) :
  Calls Tryz.prog 49 #[pv, xv] w (Ret w fun _ v => v = .tuple #[.int .i64 (gt (rCls P).1 (num P X).toNat), .int .i64 0]) := by
 have G := grp_of_r hr
 have hn6 := G.v.n6
 obtain ⟨vo, vp, vc, rfl, h3⟩ := hpv
 have hp0 := PresP.box h3 28
 have hg0 : Ext w (w.alloc (.cells #[vo, vp, vc] 28)) := World.grownBy_alloc _ _ _
 have hs0 : (w.alloc (.cells #[vo, vp, vc] 28)).heap.size = w.heap.size + 1 := by simp
 have hx0 := Ints.ext hx hg0
 obtain ⟨ax, capx, rfl, _, _⟩ := hx.shape
 have hg1 : Ext (w.alloc (.cells #[vo, vp, vc] 28)) ((w.alloc (.cells #[vo, vp, vc] 28)).alloc (.cells #[.slice ax X.length capx] 24)) := World.grownBy_alloc _ _ _
 have hl := rowsE1 hx0
 have hcon := areElements_ok P _ _ _ [X] Any Any (hp0.ext hg1) hl
 rw [hs0] at hcon
 clear hl hx
 have HH := Lib.hid (And.intro hr (And.intro hX ((trivial : True)))); clear hr hX
 go_enter Tryz.func49, Tryz.ntmps49
 go_wp2_with fail
 refine Calls.mono hcon ?_
 rintro e1 w1 ⟨v1, rfl, hgA, r1, rfl, hr1⟩
 clear hcon
 obtain rfl : r1 = true := hr1.2 (by have := HH.out; simp only [List.mem_cons, List.mem_nil_iff, or_false]; exact ⟨this.1, fun u hu => by subst hu; exact this.2.1⟩)
 clear hr1
 have hg01 := grown_trans hg1 hgA
 have HS := Lib.hid hs0; clear hs0
 generalize hw0 : (w.alloc (.cells #[vo, vp, vc] 28)) = w0 at *
 clear hw0 hg1 hgA
 have hp1 := hp0.ext hg01
 have hx1 := Ints.ext hx0 hg01
 go_wp2_with fail
 refine Calls.mono (classesOf_ok P w1 _ Any hp1) ?_
 rintro e2 w2 ⟨v2, rfl, hg2, r, rfl, hrr⟩
 have hz : clsCode P (iconsB P) = 0 := by rw [icons_eq, HH.out.1]; simp [clsCode]; omega
 have hC : Rows3O w1.heap.size w2 r (iCls P) := hrr.elim (fun h => absurd hz h.1) (fun h => h.2)
 rw [hz]
 clear hrr hz
 have hlen : (iCls P).length ≤ (ordP P).toNat := iClsTo_len P _
 have hrl : ∀ i, i < (iCls P).length → (gt (iCls P) i).length ≤ 1048576 := fun i hi => by have := iClsTo_rows G.v _ _ (gt_mem (l := iCls P) hi); omega
 have hCd := Rows3D.rows (hC.toD (by omega))
 obtain ⟨ac, capc, rfl, _, _⟩ := Sl.shape hCd
 have hx2 := Ints.ext hx1 hg2
 have HRL := Lib.hid hrl; clear hrl hC
 go_wp2_with fail
 refine Calls.mono (classNumber_ok _ _ (iCls P) X w2 _ Sx hCd hx2 HRL.out) ?_
 rintro e3 w3 ⟨v3, rfl, hg3, q, rfl, hq⟩
 have hq2 := G.find_cls HH.out.2.1 hq
 have HQ := Lib.hid hq2; clear hq2 hq hlen
 go_wp2
 go_ret2
 exact ⟨_, rfl, grown_trans hg0 (grown_trans hg01 (grown_trans hg2 hg3)), by rw [HQ.out]; try rfl⟩
set_option maxRecDepth 100000 in
set_option maxHeartbeats 4000000 in
theorem iElCen_ok (P : Pr) (hr : rconsB P = true) (w : World) (pv xv : Value) (X : List Int) (Sp Sx : Nat → Prop) (hpv : PresV Sp w pv P) (hx : Ints Sx w xv X) (hX : Vec P.orders X) :
  Calls Tryz.prog 67 #[pv, xv] w (Ret w fun w' v => ∃ a n c, v = .tuple #[.slice a n c, .int .i64 0] ∧ RowsO w.heap.size w' (.slice a n c) (cseq P (czP P [X]))) := by
 have G := grp_of_r hr
 have hn6 := G.v.n6
 obtain ⟨vo, vp, vc, rfl, h3⟩ := hpv
 have hp0 := PresP.box h3 28
 have hg0 : Ext w (w.alloc (.cells #[vo, vp, vc] 28)) := World.grownBy_alloc _ _ _
 have hs0 : (w.alloc (.cells #[vo, vp, vc] 28)).heap.size = w.heap.size + 1 := by simp
 have hx0 := Ints.ext hx hg0
 obtain ⟨ax, capx, rfl, _, _⟩ := hx.shape
 have hg1 : Ext (w.alloc (.cells #[vo, vp, vc] 28)) ((w.alloc (.cells #[vo, vp, vc] 28)).alloc (.cells #[.slice ax X.length capx] 24)) := World.grownBy_alloc _ _ _
 have hl := rowsE1 hx0
 have hcon := areElements_ok P _ _ _ [X] Any Any (hp0.ext hg1) hl
 rw [hs0] at hcon
 clear hl hx
 have HH := Lib.hid (And.intro hr (And.intro hX ((trivial : True)))); clear hr hX
 go_enter Tryz.func67, Tryz.ntmps67
 go_wp2_with fail
 refine Calls.mono hcon ?_
 rintro e1 w1 ⟨v1, rfl, hgA, r1, rfl, hr1⟩
 clear hcon
 obtain rfl : r1 = true := hr1.2 (by have := HH.out; simp only [List.mem_cons, List.mem_nil_iff, or_false]; exact ⟨this.1, fun u hu => by subst hu; exact this.2.1⟩)
 clear hr1
 have hg01 := grown_trans hg1 hgA
 have HS := Lib.hid hs0; clear hs0
 generalize hw0 : (w.alloc (.cells #[vo, vp, vc] 28)) = w0 at *
 clear hw0 hg1 hgA
 have hp1 := hp0.ext hg01
 have hx1 := Ints.ext hx0 hg01
 have hgl : Ext w1 (w1.alloc (.cells #[.slice ax X.length capx] 24)) := World.grownBy_alloc _ _ _
 have hl1 := rowsE1 hx1
 have hXs : ∀ x ∈ [X], Vec P.orders x := fun x hx => by rw [List.mem_singleton.1 hx]; exact HH.out.2.1
 have hcn := centralizer_ok P G (w1.alloc (.cells #[.slice ax X.length capx] 24)) (.pointer (some ⟨w.heap.size, 0, none⟩)) _ [X] Any Any (hp1.ext hgl) hl1 hXs
 have hl2 := G.cseq_len (G.cz_sub hXs)
 have HC := Lib.hid hcn; clear hcn hl1 hXs
 go_wp2_with fail
 refine Calls.mono HC.out ?_
 rintro e2 w2 ⟨v2, rfl, hg2, hO⟩
 obtain ⟨ad, nd, capd, hvd⟩ : ∃ a n c, v2 = Value.slice a n c := by obtain ⟨a, c, e, _⟩ := SlD.shape (hO.toD (by omega)); exact ⟨_, _, _, e⟩
 subst hvd
 have HO := Lib.hid hO; clear hO HC
 go_wp2
 go_ret2
 exact ⟨_, rfl, grown_trans hg0 (grown_trans hg01 (grown_trans hgl hg2)), _, _, _, rfl, HO.out.weak (by have := hg01.size; have := hg0.size; have := hgl.size; omega)⟩
end Go.Proofs.YtdcobapnlpeaaaaGreat
namespace Go.Proofs.YtdcobapnlpeaaaaGreat
open Go.RowKit
theorem Grp.conj_iff {P : Pr} (G : Grp P) {x y z : List Int} (hx : Vec P.orders x) (hy : Vec P.orders y) (hz : Vec P.orders z) : rMul P x z = rMul P z y ↔ rConj P x z = y := by
 constructor
 ·intro h
  unfold rConj
  rw [h, ← G.ass (G.invV hz) hz hy, G.inv_mul hz, G.grp.el _ hy]
 ·intro h
  rw [← h]
  unfold rConj
  rw [← G.ass hz (G.invV hz) (G.mulV hx hz), G.mul_inv hz, G.grp.el _ (G.mulV hx hz)]
end Go.Proofs.YtdcobapnlpeaaaaGreat
namespace Go.Proofs.YtdcobapnlpeaaaaGreat
def cn (P : Pr) (x : List Int) : Int := gt (rCls P).1 (num P x).toNat
section
variable {P : Pr} (G : Grp P)
include G
theorem Grp.cn_at {x : List Int} (hx : Vec P.orders x) : ∃ j : Nat, cn P x = j ∧ j < (iCls P).length ∧ x ∈ gt (iCls P) j ∧ ∀ j', j' < (iCls P).length → x ∈ gt (iCls P) j' → j' = j := by
 have I := G.cls_inv (ordP P).toNat (Nat.le_refl _)
 have hb := num_bd G.v hx
 have hey : elAt P (((num P x).toNat : Nat) : Int) = x := by
  rw [show (((num P x).toNat : Nat) : Int) = num P x by omega]; exact elAt_num G.v hx
 have hd := I.done (num P x).toNat (by omega)
 rcases I.at_ (num P x).toNat (by omega) with ⟨h1, _⟩ | ⟨j, h1, h2, h3, h4⟩
 ·omega
 ·rw [hey] at h3 h4
  exact ⟨j, h1, h2, h3, h4⟩
theorem Grp.cls_ok {j : Nat} (hj : j < (iCls P).length) : ClsOk P (gt (iCls P) j) := (G.cls_inv (ordP P).toNat (Nat.le_refl _)).ok _ (gt_mem (l := iCls P) hj)
end
end Go.Proofs.YtdcobapnlpeaaaaGreat
namespace Go.Proofs.YtdcobapnlpeaaaaGreat
open Go.RowKit
set_option maxRecDepth 100000 in
set_option maxHeartbeats 4000000 in
theorem elementsWithA_ok (P : Pr) (G : Grp P) (w : World) (p c1 c2 : Value) (has : List Int → Prop) (Sp : Nat → Prop) (hp : PresP Sp w p P)
  (hc : ∀ (w' : World) (xv : Value) (X : List Int) (Sx : Nat → Prop), Ext w w' → Ints Sx w' xv X → Vec P.orders X → Calls Tryz.prog 249 #[xv, c1, c2] w' (Ret w' fun _ v => ∃ r : Bool, v = .bool r ∧ (r = true ↔ has X))) :
  Calls Tryz.prog 142 #[p, .func (.func 249) #[] #[c1, c2]] w (Ret w fun w' v => RowsO w.heap.size w' v (cseq P (genP P (fun y => Vec P.orders y ∧ has y)))) := by
 have hP := G.v
 have hn6 := hP.n6
 have h729 : ordP P ≤ 729 := hP.le729
 have hpos := hP.ordP_pos
 obtain ⟨pb, po, rfl⟩ := hp.shape
 have HC := Lib.hid hc; clear hc
 go_enter Tryz.func142, Tryz.ntmps142
 go_wp2_with fail
 refine Calls.mono (newSequence_ok P w _ Sp (fun _ => False) hp hn6) ?_
 rintro e1 w1 ⟨v1, rfl, hg1, sb, gb, rfl, hs⟩
 have hgb := hs.tab.lt
 have hsb := hs.sB
 have hsl := hs.slt
 go_wp2_with fail
 refine Calls.mono (allElements_ok P hP w1 _ Sp (hp.ext hg1)) ?_
 rintro e2 w2 ⟨v2, rfl, hg2, hE⟩
 have hel : (allEl P).length = (ordP P).toNat := by simp [allEl]
 have hER : Rows2 (fun k => w1.heap.size ≤ k) w2 v2 (allEl P) := RowsD.rows (SlO.toD hE (by omega))
 obtain ⟨aE, capE, hvE, _, _⟩ := Sl.shape hER
 subst hvE
 obtain ⟨N, hN⟩ : ∃ N, N = (allEl P).length := ⟨_, rfl⟩
 rw [← hN]
 rw [← hN] at hER
 have hN729 : N ≤ 729 := by omega
 have hs2 := hs.kept (bad' := fun _ => False) hg2.size (fun k hk _ => hg2.block k hk (by simp)) (fun _ _ h => h)
 have hI0 : Ind P (genP P (takeP P has 0)) (gt (List.replicate P.orders.length ([] : List Int))) := by
  rw [takeP_zero, G.genP_none]; exact G.ind_one
 have hg02 := grown_trans hg1 hg2
 have hm1 : w1.heap.size ≤ w2.heap.size := hg2.size
 have HN := Lib.hid (And.intro hN hI0); clear hN hI0 hel hE h729 hpos hs
 go_wp2
 go_loopw [13] (fun iv wr => ∃ (k : Nat) (t : List (List Int)), iv = .int .i64 k ∧ k ≤ N ∧ w2.grownBy wr (some gb) ∧ SeqAt w.heap.size (fun _ => False) wr sb gb (.pointer (some ⟨pb, po, none⟩)) P.orders.length t ∧ Hid (Ind P (genP P (takeP P has k)) (gt t))) (fun iv _ => N - (intOf iv).toNat)
 case atStart => exact ⟨0, _, rfl, by omega, grown_refl _ _, hs2, Lib.hid HN.out.2⟩
 case round =>
  clear hs2
  obtain ⟨k, t, rfl, hk, hg, hs, hI⟩ := hrel
  have hgw : Ext w wr := grown_own hg02 hg (fun j hj hlt => by cases hj; omega)
  by_cases hlt : k < N
  ·have hlt' : (k : Int) < N := by omega
   have hkl : k < (allEl P).length := by rw [← HN.out.1]; exact hlt
   have hEr : Rows2 (fun k => w1.heap.size ≤ k) wr (.slice aE N capE) (allEl P) := Rows2.mono hER (frame_of hg (fun j hj _ => ⟨hj, fun e => by cases e; omega⟩))
   rw [HN.out.1] at hEr
   obtain ⟨bx, ox, a2, cap2, hab, _, _, hcx, hrx⟩ := Rows2.at hEr k hkl
   subst hab
   have hxV : Vec P.orders (gt (allEl P) k) := genP_takeP_vec hP (has := fun _ => True) (k := (allEl P).length) _ ⟨by rw [List.take_length]; exact gtMem hkl, trivial⟩
   obtain ⟨x, hx⟩ : ∃ x, x = gt (allEl P) k := ⟨_, rfl⟩
   rw [← hx] at hcx hrx hxV
   have hyes := takeP_yes (has := has) hkl
   have hno := takeP_no (has := has) hkl
   rw [← hx] at hyes hno
   have HX := Lib.hid (And.intro hxV (And.intro hyes hno)); clear hxV hyes hno hx
   have hcall := HC.out wr _ x _ hgw hrx HX.out.1
   go_wp2_with fail
   refine Calls.mono hcall ?_
   rintro e3 w3 ⟨v3, rfl, hg3, r, rfl, hr⟩
   clear hcall hcx
   have hg23 : w2.grownBy w3 (some gb) := grown_trans hg (grown_of_ext _ hg3)
   have hs3 := hs.kept (bad' := fun _ => False) hg3.size (fun k hk _ => hg3.block k hk (by simp)) (fun _ _ h => h)
   have hm3 : w1.heap.size ≤ w3.heap.size := by have := hg23.size; omega
   have hgw3 := grown_trans hgw hg3
   have hrx3 := Ints.ext hrx hg3
   cases r with
   | false =>
    have hI2 : Ind P (genP P (takeP P has (k + 1))) (gt t) := by
     rw [HX.out.2.2 (fun h => by have := hr.2 h; cases this)]; exact hI.out
    have HI2 := Lib.hid hI2; clear hI2 hr hI
    go_wp2
    go_roundw
    case rel => exact ⟨k + 1, t, by go_num, by omega, hg23, hs3, HI2⟩
    case measure => simp [intOf]; omega
   | true =>
    have hstep := HX.out.2.1 (hr.1 rfl)
    have HST := Lib.hid hstep; clear hstep hr
    have hgl : Ext w3 (w3.alloc (.cells #[.slice a2 x.length cap2] 24)) := World.grownBy_alloc _ _ _
    have hsl4 := hs3.kept (bad' := fun _ => False) hgl.size (fun k hk _ => hgl.block k hk (by simp)) (fun _ _ h => h)
    have hlit : Rows2 (fun k => ¬ (k = gb ∨ k = sb)) (w3.alloc (.cells #[.slice a2 x.length cap2] 24)) (.slice (some ⟨w3.heap.size, 0, none⟩) 1 1) [x] := by
     refine ⟨some ⟨w3.heap.size, 0, none⟩, 1, rfl, ⟨by simp, by simp, fun h => by cases h⟩, fun i hi => ⟨w3.heap.size, 0, .slice a2 x.length cap2, rfl, by omega, by simp, ?_, ?_⟩⟩
     ·have : i = 0 := by simpa using hi
      subst this
      rw [World.cell?_alloc_at _ _ _ _ rfl]; rfl
     ·have : i = 0 := by simpa using hi
      subst this
      exact Ints.sub (Ints.ext hrx3 hgl) (fun j hj _ => by
       have hj : w1.heap.size ≤ j := hj
       omega)
    have hx1 : ∀ y ∈ [x], Vec P.orders y := fun y hy => by rw [List.mem_singleton.1 hy]; exact HX.out.1
    have HL := Lib.hid (And.intro hlit hx1); clear hlit hx1
    have hgwl := grown_trans hgw3 hgl
    go_wp2_with fail
    refine Calls.mono (add_ok P G _ sb gb w.heap.size _ _ [x] t (genP P (takeP P has k)) (hp.mono (fun k _ hlt => ⟨by omega, Nat.lt_of_lt_of_le hlt hgwl.size, hgwl.block k hlt (by simp)⟩)) hsl4 hI.out HL.out.2 HL.out.1 (by simp)) ?_
    rintro e5 w5 ⟨t5, g5, rfl, hg5, hs5, hA, _, _⟩
    have hI5 : Ind P (genP P (takeP P has (k + 1))) (gt t5) := by
     rw [HST.out, ← genP_or]; exact hA
    have HI5 := Lib.hid hI5; clear hI5 hA
    have hg25 : w2.grownBy w5 (some gb) := grown_trans (grown_trans hg23 (grown_of_ext _ hgl)) hg5
    clear hI hs hs3 hsl4 hg5 hEr
    go_wp2
    go_roundw
    case rel => exact ⟨k + 1, t5, by go_num, by omega, hg25, hs5, HI5⟩
    case measure => simp [intOf]; omega
  ·have hke : k = N := by omega
   have hIn : Ind P (genP P (fun y => Vec P.orders y ∧ has y)) (gt t) := by
    have := hI.out
    rw [hke, HN.out.1, takeP_all hP] at this; exact this
   have HIn := Lib.hid hIn; clear hIn hI
   go_wp2_with fail
   refine Calls.mono (canonical_ok P G wr sb gb w.heap.size _ t _ _ _ (hp.ext hgw) hs HIn.out) ?_
   rintro e3 w3 ⟨v3, rfl, hg3, hO⟩
   go_wp2
   go_ret
   exact ⟨_, rfl, grown_trans hgw hg3, hO.weak hgw.size⟩
theorem Grp.cseq_triv {P : Pr} (G : Grp P) : cseq P (fun x => x = zeros P.orders.length) = [] := by
 have hf := G.seq_facts G.sub_one
 cases hc : cseq P (fun x => x = zeros P.orders.length) with
 | nil => rfl
 | cons z l =>
  exfalso
  have hz := hf.2.1 z (by rw [hc]; exact List.mem_cons_self ..)
  have hs := (hf.1.1 z (by rw [hc]; exact List.mem_cons_self ..)).2.2
  rw [hz] at hs
  have : gt (zeros P.orders.length) (dep (zeros P.orders.length)) = 0 := gt_replicate _ _
  omega
def caP (P : Pr) (H : List Int → Prop) (x : List Int) : Prop := Vec P.orders x ∧ ∀ y ∈ gensOf P.orders.length, H (comR P x y)
theorem gensOf_v {P : Pr} (G : Grp P) : ∀ y ∈ gensOf P.orders.length, Vec P.orders y := fun y hy => by
 obtain ⟨k, hk, rfl⟩ := List.mem_map.1 hy
 exact unitV_vec G.v k
theorem Grp.com_one {P : Pr} (G : Grp P) {x y : List Int} (hx : Vec P.orders x) (hy : Vec P.orders y) : comR P x y = zeros P.orders.length ↔ rMul P y x = rMul P x y := by
 have hyx := G.mulV hy hx
 have hxy := G.mulV hx hy
 unfold comR
 constructor
 ·intro h
  have h2 : rMul P (rMul P y x) (rMul P (rInv P (rMul P y x)) (rMul P x y)) = rMul P y x := by rw [h, G.grp.er _ hyx]
  rw [← G.ass hyx (G.invV hyx) hxy, G.mul_inv hyx, G.grp.el _ hxy] at h2
  exact h2.symm
 ·intro h
  rw [h, G.inv_mul hxy]
theorem Grp.ca_one {P : Pr} (G : Grp P) : caP P (fun x => x = zeros P.orders.length) = czP P (gensOf P.orders.length) :=
 funext fun _ => propext ⟨fun h => ⟨h.1, fun y hy => (G.com_one h.1 (gensOf_v G y hy)).1 (h.2 y hy)⟩, fun h => ⟨h.1, fun y hy => (G.com_one h.1 (gensOf_v G y hy)).2 (h.2 y hy)⟩⟩
theorem Grp.ct_all {P : Pr} (G : Grp P) {x : List Int} (h : czP P (gensOf P.orders.length) x) {y : List Int} (hy : Vec P.orders y) : rMul P y x = rMul P x y :=
 G.gen_ind (fun y => rMul P y x = rMul P x y) (by rw [G.grp.er _ h.1, G.grp.el _ h.1]) (fun y j hyV hq hj => by
  have hu : Vec P.orders (unitV P.orders.length j) := unitV_vec G.v j
  have hc := h.2 (unitV P.orders.length j) (List.mem_map.2 ⟨j, List.mem_range.2 hj, rfl⟩)
  rw [G.ass hyV hu h.1, hc, ← G.ass hyV h.1 hu, hq, G.ass h.1 hyV hu]) hy
set_option maxRecDepth 100000 in
set_option maxHeartbeats 4000000 in
theorem caCl_ok (P : Pr) (G : Grp P) (w : World) (p uv xv : Value) (c1 c2 : Nat) (H : List Int → Prop) (X : List Int) (Sp Su Sx : Nat → Prop) (S : Sub P H) (hp : PresP Sp w p P) (hu : Rows2 Su w uv (cseq P H)) (h1 : w.cell? ⟨c1, 0, none⟩ = some p) (h2 : w.cell? ⟨c2, 0, none⟩ = some uv) (hx : Ints Sx w xv X) (hX : Vec P.orders X) :
  Calls Tryz.prog 249 #[xv, .pointer (some ⟨c1, 0, none⟩), .pointer (some ⟨c2, 0, none⟩)] w (Ret w fun _ v => ∃ r : Bool, v = .bool r ∧ (r = true ↔ ∀ y ∈ gensOf P.orders.length, H (comR P X y))) := by
 have hP := G.v
 have hn6 := hP.n6
 obtain ⟨pb, po, rfl⟩ := hp.shape
 obtain ⟨au, nu, capu, huv⟩ : ∃ a n c, uv = Value.slice a n c := by obtain ⟨a, c, e, _⟩ := Sl.shape hu; exact ⟨_, _, _, e⟩
 subst huv
 obtain ⟨ax, capx, rfl, _, _⟩ := hx.shape
 have HU := Lib.hid hX; clear hX
 have hgl : (gensOf P.orders.length).length = P.orders.length := by simp [gensOf]
 obtain ⟨N, hN⟩ : ∃ N, N = (gensOf P.orders.length).length := ⟨_, rfl⟩
 have hN6 : N ≤ 6 := by omega
 have HG := Lib.hid hgl; clear hgl
 go_enter Tryz.func249, Tryz.ntmps249
 go_wp2_with fail
 refine Calls.mono (generators_ok P hP w _ Sp hp) ?_
 rintro eg wg ⟨gv, rfl, hgg, hG⟩
 have hGR : Rows2 (fun k => w.heap.size ≤ k) wg gv (gensOf P.orders.length) := RowsD.rows (SlO.toD hG (by omega))
 obtain ⟨ag, capg, hvg, _, _⟩ := Sl.shape hGR
 subst hvg
 clear hG
 rw [← hN]
 have HN := Lib.hid hN; clear hN
 have c1g := hgg.cell h1 (by simp)
 have c2g := hgg.cell h2 (by simp)
 clear h1 h2
 go_wp2
 go_loopw [10] (fun iv wr => ∃ (i : Nat), iv = .int .i64 i ∧ i ≤ N ∧ Ext wg wr ∧ Hid (∀ k, k < i → H (comR P X (gt (gensOf P.orders.length) k)))) (fun iv _ => N - (intOf iv).toNat)
 case atStart => exact ⟨0, rfl, by omega, grown_refl _ _, Lib.hid (fun k hk => by omega)⟩
 case round =>
  obtain ⟨i, rfl, hi, hg, hH⟩ := hrel
  by_cases hlt : i < N
  ·have hlt' : (i : Int) < N := by omega
   have hil : i < (gensOf P.orders.length).length := by rw [← HN.out]; exact hlt
   have hGr := Rows2.ext hGR hg
   obtain ⟨b, off, ay, capy, hab, _, _, hc, hy⟩ := Rows2.at hGr i hil
   subst hab
   have hyV := gensOf_v G _ (gtMem hil)
   obtain ⟨y, hye⟩ : ∃ y, y = gt (gensOf P.orders.length) i := ⟨_, rfl⟩
   rw [← hye] at hc hy hyV
   have hmV : Vec P.orders (comR P X y) := G.mulV (G.invV (G.mulV hyV HU.out)) (G.mulV HU.out hyV)
   have HY := Lib.hid (And.intro hye (And.intro hyV hmV)); clear hye hyV hmV
   have hp1 := hp.ext (grown_trans hgg hg)
   have hu1 := Rows2.ext hu (grown_trans hgg hg)
   have hx1 := Ints.ext hx (grown_trans hgg hg)
   have f1 : ∀ w', Ext wr w' → w'.cell? ⟨c1, 0, none⟩ = some (.pointer (some ⟨pb, po, none⟩)) := fun w' h => (grown_trans hg h).cell c1g (by simp)
   have f2 : ∀ w', Ext wr w' → w'.cell? ⟨c2, 0, none⟩ = some (.slice au nu capu) := fun w' h => (grown_trans hg h).cell c2g (by simp)
   go_wp2
   clear hc
   go_region_held3 (fun w' => Ext wr w') (first | exact grown_drew _ _ | assumption)
    (first
     | (go_at_call 134; refine Calls.mono (Calls.rel2 (w0 := wr) (by assumption) (commutator_ok P G _ _ _ _ X y Sp Sx _ (hp1.ext (by assumption)) (Ints.ext hx1 (by assumption)) (Ints.ext hy (by assumption)) HU.out HY.out.2.1)) ?_; rintro eA wA ⟨vA, rfl, hgA, hgA2, hsA, hOA⟩; have hAi : Ints _ wA vA (comR P X y) := hOA.ints (by have := HY.out.2.2.1; unfold comR at this; rw [this]; omega))
     | (go_at_call 123; refine Calls.mono (Calls.rel (w0 := wr) (by assumption) (isMember_ok P G _ _ _ _ H (comR P X y) Sp Su _ S (hp1.ext (by assumption)) (Rows2.ext hu1 (by assumption)) hAi HY.out.2.2)) ?_; rintro eM wM ⟨vM, rfl, hgM, hsM, r, rfl, hr⟩))
   clear f1 f2
   have HR := Lib.hid hr; clear hr
   cases r with
   | true =>
    go_wp2
    go_roundw
    case rel => exact ⟨i + 1, by go_num, by omega, grown_trans hg hgM, Lib.hid (fun k hk => by
     rcases Nat.lt_succ_iff_lt_or_eq.1 hk with h | h
     ·exact hH.out k h
     ·rw [h, ← HY.out.1]; exact HR.out.1 (by simp))⟩
    case measure => simp [intOf]; omega
   | false =>
    go_wp2
    go_ret
    exact ⟨_, rfl, grown_trans hgg (grown_trans hg hgM), false, rfl, by
     constructor
     ·intro h; cases h
     ·intro h
      have := HR.out.2 (by rw [HY.out.1]; exact h _ (gtMem hil))
      cases this⟩
  ·have hie : i = N := by omega
   have HF := Lib.hid (show ∀ y ∈ gensOf P.orders.length, H (comR P X y) from fun y hy => by
    obtain ⟨m, hm, rfl⟩ := mem_gt hy
    exact hH.out m (by rw [hie, HN.out]; exact hm))
   go_wp2
   go_ret
   exact ⟨_, rfl, grown_trans hgg hg, true, rfl, by simpa using HF.out⟩
set_option maxRecDepth 100000 in
set_option maxHeartbeats 4000000 in
theorem centerAbove_ok (P : Pr) (G : Grp P) (w : World) (p uv : Value) (H : List Int → Prop) (Sp Su : Nat → Prop) (S : Sub P H) (hp : PresP Sp w p P) (hu : Rows2 Su w uv (cseq P H)) :
  Calls Tryz.prog 166 #[p, uv] w (Ret w fun w' v => RowsO w.heap.size w' v (cseq P (genP P (caP P H)))) := by
 have hn6 := G.v.n6
 obtain ⟨pb, po, rfl⟩ := hp.shape
 obtain ⟨au, nu, capu, huv⟩ : ∃ a n c, uv = Value.slice a n c := by obtain ⟨a, c, e, _⟩ := Sl.shape hu; exact ⟨_, _, _, e⟩
 subst huv
 have hs0 : (w.alloc (.cells #[.pointer (some ⟨pb, po, none⟩)] 86)).heap.size = w.heap.size + 1 := by simp
 have hg0 : Ext w (w.alloc (.cells #[.pointer (some ⟨pb, po, none⟩)] 86)) := World.grownBy_alloc _ _ _
 have hg1 : Ext (w.alloc (.cells #[.pointer (some ⟨pb, po, none⟩)] 86)) ((w.alloc (.cells #[.pointer (some ⟨pb, po, none⟩)] 86)).alloc (.cells #[.slice au nu capu] 25)) := World.grownBy_alloc _ _ _
 have hc0 : (w.alloc (.cells #[.pointer (some ⟨pb, po, none⟩)] 86)).cell? ⟨w.heap.size, 0, none⟩ = some (.pointer (some ⟨pb, po, none⟩)) := by rw [World.cell?_alloc_at _ _ _ _ rfl]; rfl
 have hc1 : ((w.alloc (.cells #[.pointer (some ⟨pb, po, none⟩)] 86)).alloc (.cells #[.slice au nu capu] 25)).cell? ⟨w.heap.size + 1, 0, none⟩ = some (.slice au nu capu) := by
  rw [← hs0, World.cell?_alloc_at _ _ _ _ rfl]; rfl
 have hc2 := hg1.cell hc0 (by simp)
 have hg01 := grown_trans hg0 hg1
 go_enter Tryz.func166, Tryz.ntmps166
 go_wp2_with fail
 clear hc0 hg0 hg1 hs0
 generalize (w.alloc (.cells #[.pointer (some ⟨pb, po, none⟩)] 86)).alloc (.cells #[.slice au nu capu] 25) = w1 at *
 have hp1 := hp.ext hg01
 have hu1 := Rows2.ext hu hg01
 have hE := elementsWithA_ok P G w1 (.pointer (some ⟨pb, po, none⟩)) (.pointer (some ⟨w.heap.size, 0, none⟩)) (.pointer (some ⟨w.heap.size + 1, 0, none⟩)) (fun x => ∀ y ∈ gensOf P.orders.length, H (comR P x y)) Sp hp1 (fun w' xv X Sx hg hx hX => caCl_ok P G w' _ _ xv w.heap.size (w.heap.size + 1) H X Sp Su Sx S (hp1.ext hg) (Rows2.ext hu1 hg) (hg.cell hc2 (by simp)) (hg.cell hc1 (by simp)) hx hX)
 have hE2 : Calls Tryz.prog 142 #[.pointer (some ⟨pb, po, none⟩), .func (.func 249) #[] #[.pointer (some ⟨w.heap.size, 0, none⟩), .pointer (some ⟨w.heap.size + 1, 0, none⟩)]] w1 (Ret w1 fun w' v => RowsO w1.heap.size w' v (cseq P (genP P (caP P H)))) := hE
 have HE := Lib.hid hE2; clear hE hE2 hc1 hc2
 refine Calls.mono HE.out ?_
 rintro e2 w2 ⟨v2, rfl, hg2, hO⟩
 have HO := Lib.hid hO; clear hO
 go_wp2
 go_ret
 exact ⟨_, rfl, grown_trans hg01 hg2, HO.out.weak hg01.size⟩
set_option maxRecDepth 100000 in
set_option maxHeartbeats 4000000 in
theorem iCenter_ok (P : Pr) (hr : rconsB P = true) (w : World) (pv : Value) (Sp : Nat → Prop) (hpv : PresV Sp w pv P) :
  Calls Tryz.prog 64 #[pv] w (Ret w fun w' v => ∃ a n c, v = .tuple #[.slice a n c, .int .i64 0] ∧ RowsO w.heap.size w' (.slice a n c) (cseq P (czP P (gensOf P.orders.length)))) := by
 have G := grp_of_r hr
 have hn6 := G.v.n6
 obtain ⟨vo, vp, vc, rfl, h3⟩ := hpv
 have hp0 := PresP.box h3 28
 have hg0 : Ext w (w.alloc (.cells #[vo, vp, vc] 28)) := World.grownBy_alloc _ _ _
 have HR := Lib.hid hr; clear hr
 go_enter Tryz.func64, Tryz.ntmps64
 go_wp2_with fail
 refine Calls.mono (isConsistent_ok P _ _ _ ⟨_, _, _, rfl, Pres3.ext h3 (World.grownBy_alloc _ _ _)⟩) ?_
 rintro eA wA ⟨vA, rfl, hgA, rfl⟩
 have hgw : Ext w wA := grown_trans hg0 hgA
 have hpA := hp0.ext hgA
 rw [icons_eq, HR.out]
 have hS1 : Sub P (fun x => x = zeros P.orders.length) := G.sub_one
 have e1 : cseq P (fun x => x = zeros P.orders.length) = [] := G.cseq_triv
 have hu : Rows2 Any wA (.slice none 0 0) (cseq P (fun x => x = zeros P.orders.length)) := by
  rw [e1]; exact ⟨none, 0, rfl, ⟨by simp, by simp, fun _ => rfl⟩, fun i hi => by simp at hi⟩
 have hcn := centerAbove_ok P G wA _ _ _ Any Any hS1 hpA hu
 have hgs := G.cz_sub (gensOf_v G)
 rw [G.ca_one, genP_idem hgs] at hcn
 have hcl := G.cseq_len hgs
 have HC := Lib.hid hcn; clear hcn hu e1 hS1 hgs
 go_wp2_with fail
 refine Calls.mono HC.out ?_
 rintro e2 w2 ⟨v2, rfl, hg2, hO⟩
 obtain ⟨ad, nd, capd, hvd⟩ : ∃ a n c, v2 = Value.slice a n c := by obtain ⟨a, c, e, _⟩ := SlD.shape (hO.toD (by omega)); exact ⟨_, _, _, e⟩
 subst hvd
 have HO := Lib.hid hO; clear hO HC
 go_wp2
 go_ret2
 exact ⟨_, rfl, grown_trans hgw hg2, _, _, _, rfl, HO.out.weak (by have := hgw.size; omega)⟩
end Go.Proofs.YtdcobapnlpeaaaaGreat
namespace Go.Proofs.YtdcobapnlpeaaaaGreat
open Go.Proofs Go.RowKit
theorem iCls_ne {P : Pr} (G : Grp P) : ∀ C ∈ iCls P, 0 < C.length := by
 intro C hC
 have : ∀ k, k ≤ (ordP P).toNat → ∀ C ∈ iClsTo P k, 0 < C.length := by
  intro k
  induction k with
  | zero => intro _ C h; cases h
  | succ k ih =>
   intro hk C h
   rw [iClsTo] at h
   split at h
   ·exact ih (by omega) C h
   ·rcases List.mem_append.1 h with h1 | h1
    ·exact ih (by omega) C h1
    ·rw [List.mem_singleton.1 h1]
     have hx := elAt_vec G.v (k : Int) (by omega)
     have := (G.sortL_ok hx).2 _ |>.2 (G.Cj_refl hx)
     exact List.length_pos_of_mem this
 exact this _ (Nat.le_refl _) C hC
set_option maxRecDepth 100000 in
set_option maxHeartbeats 8000000 in
theorem iClassReps_ok (P : Pr) (w : World) (pv : Value) (Sp : Nat → Prop) (hpv : PresV Sp w pv P) :
  Calls Tryz.prog 63 #[pv] w (Ret w fun w' v => ∃ r, v = .tuple #[r, .int .i64 (clsCode P (iconsB P))] ∧ ((clsCode P (iconsB P) ≠ 0 ∧ r = .slice none 0 0) ∨ (clsCode P (iconsB P) = 0 ∧ RowsO w.heap.size w' r (repsOf P)))) := by
 obtain ⟨vo, vp, vc, rfl, h3⟩ := hpv
 have hp0 := PresP.box h3 28
 have hg0 : Ext w (w.alloc (.cells #[vo, vp, vc] 28)) := World.grownBy_alloc _ _ _
 go_enter Tryz.func63, Tryz.ntmps63
 go_wp2_with fail
 refine Calls.mono (classesOf_ok P _ _ _ hp0) ?_
 rintro eA wA ⟨vA, rfl, hgA, r, rfl, hr⟩
 have hgw := grown_trans hg0 hgA
 rcases hr with ⟨hz, rfl⟩ | ⟨hz, hC⟩
 ·have hz' : (clsCode P (iconsB P) != 0) = true := by simpa using hz
  go_wp2
  exact bodyPost_ret (v := .tuple #[.slice none 0 0, .int .i64 (clsCode P (iconsB P))]) (by simp [results, Tryz.results63, go_sem]) rfl ⟨_, rfl, hgw, _, rfl, .inl ⟨hz, rfl⟩⟩
 ·have hlen : (iCls P).length ≤ (ordP P).toNat := iClsTo_len P _
  have hi : iconsB P = true := by
   cases hi : iconsB P with
   | false => rw [hi] at hz; simp [clsCode] at hz
   | true => rfl
  have h128 : ordP P ≤ 128 := by
   rw [hi] at hz; simp only [clsCode, if_true] at hz; split at hz <;> omega
  have GP : Grp P := grp_of_r (by rw [← icons_eq P]; exact hi)
  have hne := iCls_ne GP
  clear hi
  obtain ⟨G, H, hA, hG⟩ := SlD.g (hC.toD (by omega))
  obtain ⟨ac, capc, hv, hl, hcell⟩ := hG
  subst hv
  -- the first rows, by index
  have hrow : ∀ i, i < (iCls P).length → ∃ u : Value × Value, ∃ b off b2 off2 a2 n2 c2, ac = some ⟨b, off, none⟩ ∧ b < wA.heap.size ∧ wA.cell? ⟨b, off + i, none⟩ = some u.1 ∧ u.1 = .slice a2 n2 c2 ∧ 0 < n2 ∧ a2 = some ⟨b2, off2, none⟩ ∧ b2 < wA.heap.size ∧
    wA.cell? ⟨b2, off2, none⟩ = some u.2 ∧ OwnIn (fun k => G i k ∧ k < wA.heap.size) wA u.2 (gt (gt (iCls P) i) 0) := fun i hi => by
   obtain ⟨b, off, u, e1, e2, e3, e4, e5⟩ := hcell i hi
   obtain ⟨G2, H2, hA2, a2, c2, rfl, hl2, hc2⟩ := SlD.g e5
   have h0 := hne _ (gt_mem hi)
   obtain ⟨b2, off2, u2, f1, f2, f3, f4, f5⟩ := hc2 0 h0
   refine ⟨(.slice a2 (gt (iCls P) i).length c2, u2), b, off, b2, off2, a2, _, c2, e1, e3, e4, rfl, h0, f1, f3, by simpa using f4, rdOwn.mono f5 (fun k hk hlt => ⟨⟨(hA2.2.1 0 k h0 hk).1, hlt⟩, hlt, rfl⟩)⟩
  obtain ⟨U, hU⟩ := Go.Deep.choose_lt (α := Value × Value) hrow
  have HU := Lib.hid hU; clear hU hrow hcell
  have HZ := Lib.hid hz
  rw [hz]
  clear hz
  go_wp2
  go_loopw [6, 18] (fun v kv wr => ∃ k : Nat, kv = .int .i64 k ∧ k ≤ (iCls P).length ∧ Ext wA wr ∧ OwnV wA.heap.size 24 wr v ((List.range k).map (fun i => (U i).2))) (fun _ kv _ => (iCls P).length - (intOf kv).toNat)
  case atStart => exact ⟨0, rfl, by omega, Ext.refl _, World.ownsRow_nil _ _ _ _⟩
  case round =>
   obtain ⟨k, rfl, hk, hg, hO⟩ := hrel
   by_cases hlt : k < (iCls P).length
   ·have hlt' : (k : Int) < (iCls P).length := by omega
    obtain ⟨b, off, b2, off2, a2, n2, c2, e1, e2, e3, e4, e5, e6, e7, e8, e9⟩ := HU.out k hlt
    cases e1; cases e6
    rw [e4] at e3
    obtain ⟨au, nu, cu, hu⟩ : ∃ au nu cu, (U k).2 = .slice au nu cu := by obtain ⟨a, c, hv, _⟩ := e9.ints.shape; exact ⟨_, _, _, hv⟩
    have hone : (U k).2.oneCell' = true := rdOwn.one e9
    rw [hu] at e8
    have hc1 := hg.cell e3 (by simp)
    have hc2 := hg.cell e8 (by simp)
    have hn0 : (0 : Int) < n2 := by omega
    have HK := Lib.hid (And.intro hu hone); clear e3 e4 e8 e9 hu hone
    have hnews : ∀ j, j < 1 → ∃ b off, (some (⟨wr.heap.size, 0, none⟩ : Addr)) = some ⟨b, off, none⟩ ∧ (wr.alloc (.cells #[.slice au nu cu] 24)).cell? ⟨b, off + j, none⟩ = some (gt [Value.slice au nu cu] j) := fun j hj => by
     have h0 : j = 0 := by omega
     subst h0
     exact ⟨wr.heap.size, 0, rfl, by rw [World.cell?_alloc_at _ _ _ _ rfl]; rfl⟩
    have hO1 : OwnV wA.heap.size 24 (wr.alloc (.cells #[.slice au nu cu] 24)) u6 ((List.range k).map (fun i => (U i).2)) := hO.kept (World.grownBy_alloc wr _ none) (by cases _hv : Value.ownBlock u6 <;> simp)
    have HN := Lib.hid (And.intro hnews hO1); clear hnews hO1
    go_wp2_with (at_builtin; go_must (refine wp_app 25 24 (.slice none 0 0) 24 und_rows Tryz.infoRow rfl (by decide) rfl _ _ rfl wA.heap.size _ ((List.range k).map (fun i => (U i).2)) rfl HN.out.2 (some ⟨wr.heap.size, 0, none⟩) 1 1 [.slice au nu cu] rfl rfl (by simp) HN.out.1 (fun u hu => by simp at hu; subst hu; rfl) (by simp; omega) (by have := hg.size; simp; omega) ?_); intro v5 w5 hO5 hg5 _ _)
    have hgx : Ext wA w5 := grown_own (grown_trans hg (World.grownBy_alloc _ _ _)) hg5 (fun j hj hlt => by have := (hO.lt j hj).1; omega)
    go_roundw
    case rel => exact ⟨k + 1, by go_num, by omega, hgx, by rw [List.range_succ, List.map_append, List.map_cons, List.map_nil, HK.out.1]; exact hO5⟩
    case measure => simp [intOf]; omega
   ·have hke : k = (iCls P).length := by omega
    subst hke
    have hfin : RowsO w.heap.size wr u6 (repsOf P) := by
     have hlr : (repsOf P).length = (iCls P).length := by unfold repsOf; rw [List.length_map]
     have hgV : ∀ i, i < (iCls P).length → gt ((List.range (iCls P).length).map (fun i => (U i).2)) i = (U i).2 := fun i hi => by simp [gt, hi]
     refine ⟨(List.range (iCls P).length).map (fun i => (U i).2), fun i k => G i k ∧ k < wA.heap.size, by rw [hlr]; simp, ?_, fun i k hi hk => ?_, fun i j k hi hj hk hk' => ?_, fun i hi => ?_⟩
     ·obtain ⟨q1, q2⟩ := hO
      refine ⟨q1, q2.imp id (fun ⟨g, cap, cur, a1, a2, a3⟩ => ⟨g, cap, cur, a1, by have := hgw.size; omega, a3⟩)⟩
     ·rw [hlr] at hi
      have h1 := (hA.2.1 i k hi hk.1).1
      have h2 : w.heap.size ≤ k := by have h1 : _ ≤ k := h1; have := hg0.size; omega
      exact ⟨h2, fun e => by have := (hO.lt k e).1; omega, by have := hg.size; omega⟩
     ·rw [hlr] at hi hj
      exact hA.2.2 i j k hi hj hk.1 hk'.1
     ·rw [hlr] at hi
      obtain ⟨_, _, _, _, _, _, _, _, _, _, _, _, _, _, _, e9⟩ := HU.out i hi
      rw [hgV i hi]
      have hgr : gt (repsOf P) i = gt (gt (iCls P) i) 0 := gt_map _ _ _ hi
      rw [hgr]
      exact rdOwn.mono e9 (fun k hk hlt => ⟨hk, Nat.lt_of_lt_of_le hlt hg.size, hg.block k hlt (by simp)⟩)
    have hlr : (repsOf P).length ≤ 128 := by unfold repsOf; rw [List.length_map]; omega
    obtain ⟨az, caps, hvz, _, _⟩ := SlD.shape (hfin.toD (by omega))
    subst hvz
    clear hO
    go_wp2
    exact bodyPost_ret (v := .tuple #[.slice az (repsOf P).length caps, .int .i64 0]) (by simp [results, Tryz.results63, go_sem]) rfl ⟨_, rfl, grown_trans hgw hg, _, by rw [HZ.out], .inr ⟨HZ.out, hfin⟩⟩
end Go.Proofs.YtdcobapnlpeaaaaGreat
namespace Go.Proofs.YtdcobapnlpeaaaaGreat
def sumL : List Int → Int
 | [] => 0
 | a :: l => a + sumL l
theorem sumL_app (l m : List Int) : sumL (l ++ m) = sumL l + sumL m := by
 induction l with
 | nil => simp [sumL]
 | cons a l ih => simp only [List.cons_append, sumL, ih]; omega
theorem sumL_lens {α : Type} (L : List (List α)) : sumL (L.map (fun C => (C.length : Int))) = (L.flatten.length : Nat) := by
 induction L with
 | nil => rfl
 | cons C L ih => simp only [List.map_cons, sumL, ih, List.flatten_cons, List.length_append]; omega
def onesL (l : List Int) : Nat := l.countP (fun s => s == 1)
theorem onesL_succ (l : List Int) (i : Nat) (hi : i < l.length) : onesL (l.take (i + 1)) = onesL (l.take i) + (if gt l i = 1 then 1 else 0) := by
 unfold onesL
 rw [take_succ_gt l i hi, List.countP_append]
 congr 1
 simp [List.countP_cons]
section
variable {P : Pr} (G : Grp P)
include G
theorem Grp.cj_eq {x g h : List Int} (hx : Vec P.orders x) (hg : Vec P.orders g) (hh : Vec P.orders h) : rConj P x g = rConj P x h ↔ czP P [x] (rMul P g (rInv P h)) := by
 have hi := G.invV hh
 have hgi := G.mulV hg hi
 have e1 : czP P [x] (rMul P g (rInv P h)) ↔ rConj P x (rMul P g (rInv P h)) = x := by
  rw [← G.conj_iff hx hx hgi]
  exact ⟨fun k => k.2 x (List.mem_singleton.2 rfl), fun k => ⟨hgi, fun y hy => by rw [List.mem_singleton.1 hy]; exact k⟩⟩
 rw [e1, ← G.conj_mul hx hg hi]
 constructor
 ·intro k
  rw [k]; exact G.conj_back hx hh
 ·intro k
  have h2 : rConj P (rConj P (rConj P x g) (rInv P h)) h = rConj P x h := by rw [k]
  rw [G.conj_mul (G.conjV hx hg) hi hh, G.inv_mul hh, G.conj_one (G.conjV hx hg)] at h2
  exact h2
theorem Grp.cls_count {x : List Int} (hx : Vec P.orders x) {C : List (List Int)} (hn : C.Nodup) (hC : ∀ z, z ∈ C ↔ Cj P x z) : (C.length : Int) * szP P (czP P [x]) = ordP P := by
 classical
 have hP := G.v
 have hop := hP.ordP_pos
 have SN := G.cz_sub (U := [x]) (fun y hy => by rw [List.mem_singleton.1 hy]; exact hx)
 have hex : ∀ z, ∃ t : El G, z ∈ C → rConj P x (rInv P t.1) = z := fun z => by
  by_cases hz : z ∈ C
  ·obtain ⟨g, hg, e⟩ := (hC z).1 hz
   exact ⟨⟨rInv P g, G.invV hg⟩, fun _ => by show rConj P x (rInv P (rInv P g)) = z; rw [G.inv_inv hg, e]⟩
  ·exact ⟨⟨zeros P.orders.length, G.oneV⟩, fun h => absurd h hz⟩
 let f : List Int → El G := fun z => Classical.choose (hex z)
 have hf : ∀ z, z ∈ C → rConj P x (rInv P (f z).1) = z := fun z hz => Classical.choose_spec (hex z) hz
 have key : ∀ s t : El G, eqv (toE G (czP P [x])) s t ↔ rConj P x (rInv P s.1) = rConj P x (rInv P t.1) := fun s t => by
  rw [G.cj_eq hx (G.invV s.2) (G.invV t.2), G.inv_inv t.2]
  exact Iff.rfl
 let aE : Nat → El G := fun i => ⟨elAt P (i : Int), elAt_vec hP _ (by omega)⟩
 have hall : cd (fun _ : El G => True) = (ordP P).toNat := by
  rw [cd_list (H := fun _ : El G => True) (l := (List.range (ordP P).toNat).map aE) ?_ ?_]
  ·rw [List.length_map, List.length_range]
  ·rw [List.nodup_iff_pairwise_ne, List.pairwise_map]
   refine (List.pairwise_lt_range).imp_of_mem (fun {a b} ha hb hab e => ?_)
   have e1 : elAt P (a : Nat) = elAt P (b : Nat) := congrArg Subtype.val e
   have ha' := List.mem_range.1 ha
   have hb' := List.mem_range.1 hb
   have n1 := num_elAt hP (a : Int) (by omega) (by omega)
   have n2 := num_elAt hP (b : Int) (by omega) (by omega)
   rw [e1, n2] at n1
   omega
  ·intro y
   refine ⟨fun _ => trivial, fun _ => List.mem_map.2 ⟨(num P y.1).toNat, ?_, Subtype.ext ?_⟩⟩
   ·have := num_bd hP y.2; rw [List.mem_range]; omega
   ·have := num_bd hP y.2
    show elAt P (((num P y.1).toNat : Nat) : Int) = y.1
    rw [show (((num P y.1).toNat : Nat) : Int) = num P y.1 by omega]
    exact elAt_num hP y.2
 have hm := cd_mul (N := toE G (czP P [x])) (B := fun _ : El G => True) (toE_sg SN) (ts := C.map f) ?_ (fun _ _ _ _ => trivial) ?_ ?_
 ·rw [hall, List.length_map] at hm
  have ho := order_cd (G := G) SN
  unfold szP
  rw [ho, ← Int.natCast_mul, ← hm]
  omega
 ·rw [List.nodup_iff_pairwise_ne, List.pairwise_map]
  refine (List.nodup_iff_pairwise_ne.1 hn).imp_of_mem (fun {a b} ha hb hab e => hab ?_)
  rw [← hf a ha, ← hf b hb, e]
 ·intro t ht u hu h
  obtain ⟨a, ha, rfl⟩ := List.mem_map.1 ht
  obtain ⟨b, hb, rfl⟩ := List.mem_map.1 hu
  have := (key _ _).1 h
  rw [hf a ha, hf b hb] at this
  rw [this]
 ·intro y _
  have hz : rConj P x (rInv P y.1) ∈ C := (hC _).2 ⟨_, G.invV y.2, rfl⟩
  refine ⟨f (rConj P x (rInv P y.1)), List.mem_map.2 ⟨_, hz, rfl⟩, ?_⟩
  rw [key, hf _ hz]
theorem Grp.rep_in {i : Nat} (hi : i < (iCls P).length) : gt (repsOf P) i ∈ gt (iCls P) i := by
 have hr : gt (repsOf P) i = gt (gt (iCls P) i) 0 := gt_map _ _ _ hi
 rw [hr]
 exact gt_mem (iCls_ne G _ (gt_mem (l := iCls P) hi))
theorem Grp.rep_vec {i : Nat} (hi : i < (iCls P).length) : Vec P.orders (gt (repsOf P) i) := (G.cls_ok hi).vec _ (G.rep_in hi)
theorem Grp.cn_rep {i : Nat} (hi : i < (iCls P).length) : cn P (gt (repsOf P) i) = i := by
 obtain ⟨j, h1, _, _, h4⟩ := G.cn_at (G.rep_vec hi)
 rw [h1, h4 i hi (G.rep_in hi)]
theorem Grp.size_cz {i : Nat} (hi : i < (iCls P).length) : gt (iSizes P) i * szP P (czP P [gt (repsOf P) i]) = ordP P := by
 have e : gt (iSizes P) i = ((gt (iCls P) i).length : Int) := gt_map _ _ _ hi
 rw [e]
 have hok := G.cls_ok hi
 exact G.cls_count (G.rep_vec hi) hok.nd (fun z => hok.cj _ (G.rep_in hi) z)
omit G in
theorem sizes_len (P : Pr) : (iSizes P).length = (iCls P).length := List.length_map _
omit G in
theorem reps_len (P : Pr) : (repsOf P).length = (iCls P).length := List.length_map _
theorem Grp.sum_sizes : sumL (iSizes P) = ordP P := by
 have hP := G.v
 have hop := hP.ordP_pos
 unfold iSizes
 rw [sumL_lens]
 have hnd : (iCls P).flatten.Nodup := by
  rw [List.nodup_iff_pairwise_ne, List.pairwise_flatten]
  refine ⟨fun C hC => ?_, ?_⟩
  ·obtain ⟨j, hj, rfl⟩ := mem_gt hC
   exact List.nodup_iff_pairwise_ne.1 (G.cls_ok hj).nd
  ·rw [List.pairwise_iff_getElem]
   intro i j hi hj hij z h1 y h2 e
   subst e
   have h1 : z ∈ gt (iCls P) i := by rw [gt_eq _ i hi]; exact h1
   have h2 : z ∈ gt (iCls P) j := by rw [gt_eq _ j hj]; exact h2
   obtain ⟨k, _, _, _, h4⟩ := G.cn_at ((G.cls_ok hi).vec z h1)
   have := h4 i hi h1
   have := h4 j hj h2
   omega
 have hne : ((List.range (ordP P).toNat).map (fun t : Nat => elAt P (t : Int))).Nodup := by
  rw [List.nodup_iff_pairwise_ne, List.pairwise_map]
  refine (List.pairwise_lt_range).imp_of_mem (fun {a b} ha hb hab e => ?_)
  have ha' := List.mem_range.1 ha
  have hb' := List.mem_range.1 hb
  have n1 := num_elAt hP (a : Int) (by omega) (by omega)
  have n2 := num_elAt hP (b : Int) (by omega) (by omega)
  rw [e, n2] at n1
  omega
 have hmem : ∀ z, z ∈ (iCls P).flatten ↔ z ∈ (List.range (ordP P).toNat).map (fun t : Nat => elAt P (t : Int)) := fun z => by
  rw [List.mem_flatten, List.mem_map]
  constructor
  ·rintro ⟨C, hC, hz⟩
   obtain ⟨j, hj, rfl⟩ := mem_gt hC
   have hv := (G.cls_ok hj).vec z hz
   have hb := num_bd hP hv
   refine ⟨(num P z).toNat, List.mem_range.2 (by omega), ?_⟩
   rw [show (((num P z).toNat : Nat) : Int) = num P z by omega]
   exact elAt_num hP hv
  ·rintro ⟨t, _, rfl⟩
   obtain ⟨j, _, h2, h3, _⟩ := G.cn_at (elAt_vec hP (t : Int) (by omega))
   exact ⟨_, gt_mem h2, h3⟩
 have hl := ((List.perm_ext_iff_of_nodup hnd hne).2 hmem).length_eq
 rw [hl, List.length_map, List.length_range]
 omega
theorem Grp.ones_center : (onesL (iSizes P) : Int) = szP P (czP P (gensOf P.orders.length)) := by
 have hP := G.v
 have SZ := G.cz_sub (gensOf_v G)
 have e1 : szP P (czP P (gensOf P.orders.length)) = ((elemsIn P (czP P (gensOf P.orders.length))).length : Nat) := G.order_elems SZ
 rw [e1]
 have e2 : onesL (iSizes P) = (((iCls P).filter (fun C => C.length == 1)).map (fun C => gt C 0)).length := by
  unfold onesL iSizes
  rw [List.countP_map, List.length_map, List.countP_eq_length_filter]
  congr 1
  refine List.filter_congr (fun C _ => ?_)
  show ((C.length : Int) == 1) = (C.length == 1)
  by_cases h : C.length = 1
  ·rw [h]; rfl
  ·have h2 : ¬ (C.length : Int) = 1 := by omega
   rw [show ((C.length : Int) == 1) = false from beq_eq_false_iff_ne.2 h2, show (C.length == 1) = false from beq_eq_false_iff_ne.2 h]
 rw [e2]
 congr 1
 have hone : ∀ C ∈ iCls P, ∀ x, x ∈ C → (C.length = 1 ↔ czP P (gensOf P.orders.length) x) := fun C hC x hxC => by
  obtain ⟨j, hj, rfl⟩ := mem_gt hC
  have hok := G.cls_ok hj
  have hxV := hok.vec x hxC
  constructor
  ·intro h
   refine ⟨hxV, fun y hy => ?_⟩
   have hyV := gensOf_v G y hy
   have hc : rConj P x y ∈ gt (iCls P) j := (hok.cj x hxC _).2 ⟨y, hyV, rfl⟩
   obtain ⟨a, ha⟩ := List.length_eq_one_iff.1 h
   rw [ha, List.mem_singleton] at hc hxC
   have h3 : rConj P x y = x := by rw [hc, ← hxC]
   exact ((G.conj_iff hxV hxV hyV).2 h3).symm
  ·intro h
   have hall : ∀ z ∈ gt (iCls P) j, z = x := fun z hz => by
    obtain ⟨g, hg, e⟩ := (hok.cj x hxC z).1 hz
    rw [e, (G.conj_iff hxV hxV hg).1 (G.ct_all h hg).symm]
   have hnd := hok.nd
   cases hl : gt (iCls P) j with
   | nil => rw [hl] at hxC; cases hxC
   | cons a l =>
    cases l with
    | nil => rfl
    | cons b l =>
     exfalso
     rw [hl] at hall hnd
     have ha := hall a (by simp)
     have hb := hall b (by simp)
     rw [ha, hb] at hnd
     simp at hnd
 have hnd : (((iCls P).filter (fun C => C.length == 1)).map (fun C => gt C 0)).Nodup := by
  rw [List.nodup_iff_pairwise_ne, List.pairwise_map]
  refine List.Pairwise.filter _ ?_
  rw [List.pairwise_iff_getElem]
  intro i j hi hj hij e
  have h1 := G.rep_in hi
  have h2 := G.rep_in hj
  have r1 : gt (repsOf P) i = gt (gt (iCls P) i) 0 := gt_map _ _ _ hi
  have r2 : gt (repsOf P) j = gt (gt (iCls P) j) 0 := gt_map _ _ _ hj
  rw [← gt_eq _ i hi, ← gt_eq _ j hj, ← r1, ← r2] at e
  have k1 := G.cn_rep hi
  have k2 := G.cn_rep hj
  rw [e, k2] at k1
  omega
 refine ((List.perm_ext_iff_of_nodup hnd (elemsIn_nodup hP _)).2 (fun z => ?_)).length_eq
 rw [elemsIn_mem hP SZ.vec, List.mem_map]
 constructor
 ·rintro ⟨C, hC, rfl⟩
  rw [List.mem_filter] at hC
  exact (hone C hC.1 _ (gt_mem (iCls_ne G C hC.1))).1 (by simpa using hC.2)
 ·intro hz
  obtain ⟨j, _, h2, h3, _⟩ := G.cn_at hz.1
  have hl := (hone _ (gt_mem h2) z h3).2 hz
  refine ⟨gt (iCls P) j, List.mem_filter.2 ⟨gt_mem h2, by simp [hl]⟩, ?_⟩
  obtain ⟨a, ha⟩ := List.length_eq_one_iff.1 hl
  rw [ha, List.mem_singleton] at h3
  rw [ha, h3]; rfl
end
end Go.Proofs.YtdcobapnlpeaaaaGreat
namespace Go.Proofs.YtdcobapnlpeaaaaGreat
open Go.RowKit
theorem sumL_take (l : List Int) (i : Nat) (hi : i < l.length) : sumL (l.take (i + 1)) = sumL (l.take i) + gt l i := by
 rw [take_succ_gt l i hi, sumL_app]; simp [sumL]
theorem sumL_bd (l : List Int) (h : ∀ i, i < l.length → 0 ≤ gt l i ∧ gt l i ≤ 1000) (k : Nat) (hk : k ≤ l.length) : 0 ≤ sumL (l.take k) ∧ sumL (l.take k) ≤ 1000 * k := by
 induction k with
 | zero => simp [sumL]
 | succ k ih =>
  have h1 := ih (by omega)
  have h2 := h k (by omega)
  rw [sumL_take l k (by omega)]
  omega
set_option maxRecDepth 100000 in
set_option maxHeartbeats 2000000 in
theorem sum_ok (w : World) (v : Value) (l : List Int) (S : Nat → Prop) (hv : Ints S w v l) (hl : l.length ≤ 100000) (hb : ∀ i, i < l.length → 0 ≤ gt l i ∧ gt l i ≤ 1000) :
  Calls Tryz.prog 66 #[v] w fun e w' => e = .returned (.int .i64 (sumL l)) ∧ w = w' := by
 obtain ⟨a, cap, rfl, _, _⟩ := hv.shape
 have HB := Lib.hid hb; clear hb
 go_enter Tryz.func66, Tryz.ntmps66
 go_wp2
 go_loop [3, 4] (fun nv iv => ∃ (k : Nat) (n : Int), iv = .int .i64 k ∧ nv = .int .i64 n ∧ k ≤ l.length ∧ Hid (n = sumL (l.take k))) (fun _ iv => l.length - (intOf iv).toNat)
 case atStart => exact ⟨0, 0, rfl, rfl, by omega, Lib.hid (by simp [sumL])⟩
 case round =>
  obtain ⟨k, n, rfl, rfl, hk, hn⟩ := hrel
  by_cases hlt : k < l.length
  ·obtain ⟨b, off, rfl, _, _, hc⟩ := Ints.at hv k hlt
   have h1 := sumL_bd l HB.out k (by omega)
   rw [← hn.out] at h1
   have h2 := HB.out k hlt
   have hst : n + gt l k = sumL (l.take (k + 1)) := by rw [sumL_take l k hlt, hn.out]
   generalize gt l k = x at hc h2 hst
   have hm0 : 0 ≤ n + x := by omega
   have hm1 : n + x ≤ 1000000000 := by omega
   have HST := Lib.hid hst; clear hst h1 h2 hn
   go_wp2
   go_round
   case rel => exact ⟨k + 1, n + x, by go_num, rfl, by omega, HST⟩
   case measure => simp [intOf]; omega
  ·have hke : k = l.length := by omega
   subst hke
   have hfin : n = sumL l := by rw [hn.out, List.take_length]
   subst hfin
   clear hn
   go_wp2
   go_ret
   exact ⟨rfl, rfl⟩
set_option maxRecDepth 100000 in
set_option maxHeartbeats 2000000 in
theorem iPairs_ok (P : Pr) (hr : rconsB P = true) (h128 : ordP P ≤ 128) (w : World) (pv : Value) (Sp : Nat → Prop) (hpv : PresV Sp w pv P) :
  Calls Tryz.prog 65 #[pv] w (Ret w fun _ v => v = .tuple #[.int .i64 (ordP P * ((iCls P).length : Nat)), .int .i64 0]) := by
 have G := grp_of_r hr
 obtain ⟨vo, vp, vc, rfl, h3⟩ := hpv
 have hp0 := PresP.box h3 28
 have hg0 : Ext w (w.alloc (.cells #[vo, vp, vc] 28)) := World.grownBy_alloc _ _ _
 have hz : clsCode P (iconsB P) = 0 := by rw [icons_eq, hr]; simp [clsCode]; omega
 have hlen : (iCls P).length ≤ (ordP P).toNat := iClsTo_len P _
 have hop := G.v.ordP_pos
 have hcc := classesOf_ok P _ _ _ hp0
 rw [hz] at hcc
 have HC := Lib.hid hcc; clear hcc hz hr
 go_enter Tryz.func65, Tryz.ntmps65
 go_wp2_with fail
 refine Calls.mono HC.out ?_
 rintro e2 w2 ⟨v2, rfl, hg2, r, rfl, hrr⟩
 have hC := hrr.elim (fun h => absurd rfl h.1) (fun h => h.2)
 have hCd := Rows3D.rows (hC.toD (by omega))
 obtain ⟨ac, capc, rfl, _, _⟩ := Sl.shape hCd
 have hp2 := hp0.ext hg2
 clear hrr hC hCd HC
 obtain ⟨N, hN⟩ : ∃ N, N = (iCls P).length := ⟨_, rfl⟩
 rw [← hN] at hlen
 rw [← hN]
 have HN := Lib.hid hN; clear hN
 go_wp2_with fail
 refine Calls.mono (orderOf_ok w2 _ P Any G.v hp2) ?_
 rintro _ _ ⟨rfl, rfl⟩
 have hm0 : 0 ≤ ordP P * (N : Int) := Int.mul_nonneg (by omega) (by omega)
 have hm1 : ordP P * (N : Int) ≤ 128 * 128 := Int.mul_le_mul h128 (by omega) (by omega) (by omega)
 have hm2 : ordP P * (N : Int) ≤ 1000000 := by omega
 clear hm1
 go_wp2
 go_ret2
 exact ⟨_, rfl, grown_trans hg0 hg2, by rw [HN.out]; rfl⟩
end Go.Proofs.YtdcobapnlpeaaaaGreat
namespace Go.Proofs.YtdcobapnlpeaaaaGreat
open Go.Proofs Go.Shelf Go.RowKit Go.Lib
def Tryz.growRows_ren : Go.Shelf.Ren := ⟨fun | 4 => 253 | n => n, fun | 22 => 25 | 25 => 24 | 3 => 3 | 4 => 4 | 9 => 9 | 20 => 20 | 0 => 0 | n => n, fun | n => n⟩
theorem Tryz.growRows : Go.Proofs.Lays8.n4 Tryz.prog Tryz.growRows_ren := {
  mixed := by kernel_rfl
  f4 := ⟨Tryz.f253.name, by decide, Tryz.func253.trans (congrArg some (by kernel_rfl))⟩
  t0 := Tryz.underlying0
  a0 := Tryz.isAgg0
  z0 := Tryz.sizeOf0
  v0 := Tryz.zeroValue0
  t3 := Tryz.underlying3
  a3 := Tryz.isAgg3
  z3 := Tryz.sizeOf3
  v3 := Tryz.zeroValue3
  t4 := Tryz.underlying4
  a4 := Tryz.isAgg4
  z4 := Tryz.sizeOf4
  v4 := Tryz.zeroValue4
  t9 := Tryz.underlying9
  a9 := Tryz.isAgg9
  z9 := Tryz.sizeOf9
  v9 := Tryz.zeroValue9
  t20 := Tryz.underlying20
  a20 := Tryz.isAgg20
  z20 := Tryz.sizeOf20
  v20 := Tryz.zeroValue20
  t22 := Tryz.underlying25
  a22 := Tryz.isAgg25
  z22 := Tryz.sizeOf25
  v22 := Tryz.zeroValue25 }
end Go.Proofs.YtdcobapnlpeaaaaGreat
namespace Go.Proofs.YtdcobapnlpeaaaaGreat
open Go.RowKit
end Go.Proofs.YtdcobapnlpeaaaaGreat
namespace Go.Proofs.YtdcobapnlpeaaaaGreat
open Go.RowKit
attribute [local go_sem ↓] Go.wp_at_zero Go.wp_at_succ
set_option maxRecDepth 100000 in
set_option maxHeartbeats 8000000 in
theorem lawCe_ok (w : World) (cv : Value) (bs : List Int) (S : Nat → Prop) (hb : Bytes S w cv bs) :
  Calls Tryz.prog 9 #[cv] w (Ret w fun _ v => v = .bool true) := by
 obtain ⟨ca, cc, rfl, _, _⟩ := Sl.shape hb
 go_enter Tryz.func9, Tryz.ntmps9
 go_wp2_with fail
 refine Calls.mono (big_ok w _ bs S hb) ?_
 rintro _ _ ⟨rfl, rfl⟩
 by_cases hbg : 4096 < bs.length
 ·have hd : decide (4096 < bs.length) = true := by simp [hbg]
  rw [hd]
  go_wp2
  go_ret
  exact ⟨_, rfl, grown_refl _ _, rfl⟩
 have hbl : bs.length ≤ 4096 := by omega
 have hd : decide (4096 < bs.length) = false := by simp [hbg]
 rw [hd]; clear hd hbg
 go_wp2_with fail
 refine Calls.mono (DrawClassSizes_ok w _ bs S hb) ?_
 rintro e1 w1 ⟨v1, rfl, hg1, vo, vp, vc, P, rfl, hPl, hP⟩
 obtain ⟨a1, n1, c1, hy1⟩ : ∃ a n c, vo = .slice a n c := by obtain ⟨a, c, e, _⟩ := hP.o.shape; exact ⟨_, _, _, e⟩
 obtain ⟨a2, n2, c2, hy2⟩ : ∃ a n c, vp = .slice a n c := by obtain ⟨a, c, e, _⟩ := Sl.shape hP.p; exact ⟨_, _, _, e⟩
 obtain ⟨a3, n3, c3, hy3⟩ : ∃ a n c, vc = .slice a n c := by obtain ⟨a, c, e, _⟩ := Sl.shape hP.c; exact ⟨_, _, _, e⟩
 subst hy1 hy2 hy3
 have hgX : Ext w1 (w1.alloc (.cells #[.slice a1 n1 c1, .slice a2 n2 c2, .slice a3 n3 c3] 28)) := World.grownBy_alloc _ _ _
 have hX := Box3.made w1 28 (.slice a1 n1 c1) (.slice a2 n2 c2) (.slice a3 n3 c3)
 have hPX := hP.ext hgX
 have hgw := grown_trans hg1 hgX
 have hbX := Bytes.ext hb hgw
 have HA0 := Lib.hid (And.intro hPX (And.intro hgw hbX)); clear hPX  hgw hbX hgX hP  hg1 hb
 obtain ⟨pb, hpb⟩ : ∃ pb, pb = w1.heap.size := ⟨_, rfl⟩
 rw [← hpb] at hX
 have HP := Lib.hid hpb; clear hpb
 go_wp2_with fail
 rw [← HP.out]
 generalize w1.alloc (.cells #[.slice a1 n1 c1, .slice a2 n2 c2, .slice a3 n3 c3] 28) = w2 at *
 clear HP
 have hall : ∀ w', Ext w2 w' → Box3 w' pb (.slice a1 n1 c1) (.slice a2 n2 c2) (.slice a3 n3 c3) ∧ PresV (From w.heap.size) w' (.agg #[.slice a1 n1 c1, .slice a2 n2 c2, .slice a3 n3 c3]) P ∧ Bytes S w' (.slice ca bs.length cc) bs :=
  fun w' h => ⟨hX.ext h, ⟨_, _, _, rfl, HA0.out.1.ext h⟩, Bytes.ext HA0.out.2.2 h⟩
 have HA := Lib.hid hall; clear hall hX
 have hgw := grown_refl w2 none
 have hzl := szL_len P
 obtain ⟨b0_, b1_, b2_, b3_, _⟩ := id (HA.out w2 hgw).1
 go_wp2_with fail
 clear b0_ b1_ b2_ b3_
 refine Calls.mono (iSizes2_ok P w2 _ _ (HA.out w2 hgw).2.1) ?_
 rintro e3 w3 ⟨v3, rfl, hg_, za, zn, zc, rfl, hZ_⟩
 replace hgw := grown_trans hgw hg_
 have hZr : Ints Any w3 (.slice za zn zc) (szL P) := Ints.sub (hZ_.ints (by omega)) (fun _ _ _ => trivial)
 have hZx : ∀ w', Ext w3 w' → Ints Any w' (.slice za zn zc) (szL P) := fun w' h => Ints.ext hZr h
 have HZ := Lib.hid hZx; clear hZr hZx
 have hgZ := grown_refl w3 none
 clear hZ_
 clear hg_
 obtain ⟨b0_, b1_, b2_, b3_, _⟩ := id (HA.out w3 hgw).1
 go_wp2_with fail
 clear b0_ b1_ b2_ b3_
 refine Calls.mono (sSizes2_ok P w3 _ _ (HA.out w3 hgw).2.1) ?_
 rintro e4 w4 ⟨v4, rfl, hg_, ta, tn, tc, rfl, hT_⟩
 replace hgw := grown_trans hgw hg_
 replace hgZ := grown_trans hgZ hg_
 have hTr : Ints Any w4 (.slice ta tn tc) (szL P) := Ints.sub (hT_.ints (by omega)) (fun _ _ _ => trivial)
 have hTx : ∀ w', Ext w4 w' → Ints Any w' (.slice ta tn tc) (szL P) := fun w' h => Ints.ext hTr h
 have HT := Lib.hid hTx; clear hTr hTx
 have hgT := grown_refl w4 none
 clear hT_ hzl
 clear hg_
 go_wp2_with fail
 refine Calls.mono (likeInts_ok _ _ (szL P) (szL P) w4 Any Any (HZ.out w4 hgZ) (HT.out w4 hgT)) ?_
 rintro e5 w5 ⟨v5, rfl, hg_, rfl⟩
 replace hgw := grown_trans hgw hg_
 replace hgZ := grown_trans hgZ hg_
 replace hgT := grown_trans hgT hg_
 rw [show eqB (szL P) (szL P) = true from eqB_true.2 rfl]
 clear HT hgT
 clear hg_
 by_cases hz : clsCode P (iconsB P) = 0
 case neg =>
  have hzb : (clsCode P (iconsB P) != 0) = true := by simpa using hz
  clear hz
  generalize clsCode P (iconsB P) = cc at *
  go_wp2
  go_ret
  exact ⟨_, rfl, grown_trans HA0.out.2.1 hgw, rfl⟩
 have hsz : szL P = iSizes P := by unfold szL; rw [if_pos hz]
 rw [hsz] at HZ
 have hr : rconsB P = true := by
  rw [← icons_eq]
  cases hi : iconsB P with
  | false => rw [hi] at hz; simp [clsCode] at hz
  | true => rfl
 have h128 : ordP P ≤ 128 := by
  have h1 := hz
  rw [icons_eq, hr] at h1
  simp only [clsCode, if_true] at h1
  split at h1 <;> omega
 rw [hz]
 have HZC := Lib.hid hz; clear hz hsz
 have G := grp_of_r hr
 have hn6 := G.v.n6
 have hop := G.v.ordP_pos
 have hil : (iCls P).length ≤ (ordP P).toNat := iClsTo_len P _
 have hsl := sizes_len P
 have hrl := reps_len P
 obtain ⟨N, hN⟩ : ∃ N, N = (iCls P).length := ⟨_, rfl⟩
 rw [← hN] at hil hsl hrl
 have SZ := G.cz_sub (gensOf_v G)
 have SZB := G.subB_cseq SZ
 have HN := Lib.hid (And.intro hN (And.intro SZ SZB)); clear hN SZ SZB
 obtain ⟨zo, zof, zcp, hzs⟩ : True ∧ True ∧ True ∧ True := ⟨trivial, trivial, trivial, trivial⟩
 clear zo zof zcp hzs
 obtain rfl : N = zn := by
  obtain ⟨a, c, e, _⟩ := (HZ.out _ hgZ).shape
  cases e; exact hsl.symm
 obtain ⟨b0_, b1_, b2_, b3_, _⟩ := id (HA.out w5 hgw).1
 go_wp2_with fail
 clear b0_ b1_ b2_ b3_
 refine Calls.mono (iClassReps_ok P w5 _ _ (HA.out w5 hgw).2.1) ?_
 rintro e6 w6 ⟨v6, rfl, hg_, rp, rfl, hrr⟩
 replace hgw := grown_trans hgw hg_
 replace hgZ := grown_trans hgZ hg_
 have hRO : RowsO w5.heap.size w6 rp (repsOf P) := hrr.elim (fun h => absurd HZC.out h.1) (fun h => h.2)
 rw [HZC.out]
 obtain ⟨ra, rc, hre⟩ := RowsO.shapeC hRO (by omega)
 rw [hrl] at hre
 subst hre
 clear hrr
 have hRr : Rows2 Any w6 (.slice ra N rc) (repsOf P) := Rows2.sub (RowsD.rows (SlO.toD hRO (by omega))) (fun _ _ _ => trivial)
 have hRx : ∀ w', Ext w6 w' → Rows2 Any w' (.slice ra N rc) (repsOf P) := fun w' h => Rows2.ext hRr h
 have HR := Lib.hid hRx; clear hRr hRx
 have hgR := grown_refl w6 none
 clear hRO
 clear hg_
 obtain ⟨b0_, b1_, b2_, b3_, _⟩ := id (HA.out w6 hgw).1
 go_wp2_with fail
 clear b0_ b1_ b2_ b3_
 refine Calls.mono (iCenter_ok P hr w6 _ _ (HA.out w6 hgw).2.1) ?_
 rintro e7 w7 ⟨v7, rfl, hg_, ca, cn9, cc9, rfl, hC_⟩
 replace hgw := grown_trans hgw hg_
 replace hgZ := grown_trans hgZ hg_
 replace hgR := grown_trans hgR hg_
 have hcl := G.cseq_len HN.out.2.1
 have hCr : Rows2 Any w7 (.slice ca cn9 cc9) (cseq P (czP P (gensOf P.orders.length))) := Rows2.sub (RowsD.rows (SlO.toD hC_ (by omega))) (fun _ _ _ => trivial)
 have hCx : ∀ w', Ext w7 w' → Rows2 Any w' (.slice ca cn9 cc9) (cseq P (czP P (gensOf P.orders.length))) := fun w' h => Rows2.ext hCr h
 have HC := Lib.hid hCx; clear hCr hCx
 have hgC := grown_refl w7 none
 clear hC_ hcl
 clear hg_
 obtain ⟨b0_, b1_, b2_, b3_, _⟩ := id (HA.out w7 hgw).1
 go_wp2_with fail
 clear b0_ b1_ b2_ b3_
 refine Calls.mono (iOrder_ok P hr w7 _ _ _ _ _ (HA.out w7 hgw).2.1 (HC.out w7 hgC) HN.out.2.2) ?_
 rintro e8 w8 ⟨v8, rfl, hg_, rfl⟩
 replace hgw := grown_trans hgw hg_
 replace hgZ := grown_trans hgZ hg_
 replace hgR := grown_trans hgR hg_
 replace hgC := grown_trans hgC hg_
 obtain ⟨cz, hcz⟩ : ∃ cz, cz = szP P (czP P (gensOf P.orders.length)) := ⟨_, rfl⟩
 rw [show prodU P (cseq P (czP P (gensOf P.orders.length))) (cseq P (czP P (gensOf P.orders.length))).length = cz from hcz.symm]
 have HCZ := Lib.hid hcz; clear hcz HC hgC
 clear hg_
 obtain ⟨b0_, b1_, b2_, b3_, _⟩ := id (HA.out w8 hgw).1
 go_wp2_with fail
 clear b0_ b1_ b2_ b3_
 refine Calls.mono (iPairs_ok P hr h128 w8 _ _ (HA.out w8 hgw).2.1) ?_
 rintro e9 w9 ⟨v9, rfl, hg_, rfl⟩
 replace hgw := grown_trans hgw hg_
 replace hgZ := grown_trans hgZ hg_
 replace hgR := grown_trans hgR hg_
 rw [← HN.out.1]
 clear hg_
 have hm1 : (N : Int) * ordP P ≤ 128 * 128 := Int.mul_le_mul (by omega) h128 (by omega) (by omega)
 have hm0 : 0 ≤ (N : Int) * ordP P := Int.mul_nonneg (by omega) (by omega)
 have hmc : ordP P * (N : Int) = (N : Int) * ordP P := Int.mul_comm _ _
 rw [hmc]; clear hmc
 have hss := G.sum_sizes
 have hsb : ∀ i, i < (iSizes P).length → 0 ≤ gt (iSizes P) i ∧ gt (iSizes P) i ≤ 1000 := fun i hi => by
  have e : gt (iSizes P) i = ((gt (iCls P) i).length : Int) := gt_map _ _ _ (by rw [← sizes_len]; exact hi)
  have := iClsTo_rows G.v _ _ (gt_mem (l := iCls P) (show i < (iCls P).length by rw [← sizes_len]; exact hi))
  omega
 have HSS := Lib.hid (And.intro hss (And.intro hsb (And.intro hsl hrl))); clear hss hsb hsl hrl
 have f1_ : ∀ w', Ext w9 w' → w'.cell? ⟨pb, 0, none⟩ = some (.slice a1 n1 c1) := fun w' h => (HA.out w' (grown_trans hgw h)).1.2.1
 have f2_ : ∀ w', Ext w9 w' → w'.cell? ⟨pb, 1, none⟩ = some (.slice a2 n2 c2) := fun w' h => (HA.out w' (grown_trans hgw h)).1.2.2.1
 have f3_ : ∀ w', Ext w9 w' → w'.cell? ⟨pb, 2, none⟩ = some (.slice a3 n3 c3) := fun w' h => (HA.out w' (grown_trans hgw h)).1.2.2.2.1
 go_wp2
 have hwr : IntKind.i64.wrap ((N : Int) * ordP P) = (N : Int) * ordP P := IntWalk.i64_in _ (by omega)
 go_region_held3 (fun w' => Ext w9 w') (first | exact grown_drew _ _ | assumption)
  (first
   | (go_at_call 66; refine Calls.mono (sum_ok _ _ (iSizes P) _ (HZ.out _ (grown_trans hgZ (by assumption))) (by rw [HSS.out.2.2.1]; omega) HSS.out.2.1) ?_; rintro _ _ ⟨rfl, rfl⟩; rw [HSS.out.1])
   | (go_at_call 44; refine Calls.mono (Calls.rel (w0 := w9) (by assumption) (size9_ok P hr _ _ _ (HA.out _ (grown_trans hgw (by assumption))).2.1)) ?_; rintro eS wS ⟨vS, rfl, hgS, _, rfl⟩))
 clear f1_ f2_ f3_ hwr hm0 hm1
 replace hgw := grown_trans hgw hgS
 replace hgZ := grown_trans hgZ hgS
 replace hgR := grown_trans hgR hgS
 obtain ⟨wk, rfl⟩ : ∃ wk : World, wk = wS := ⟨_, rfl⟩
 clear hgS
 go_wp2
 go_loopw [16, 17] (fun ov iv wr => ∃ (i o : Nat), iv = .int .i64 i ∧ i ≤ N ∧ ov = .int .i64 o ∧ o ≤ i ∧ Ext wk wr ∧ Hid (o = onesL ((iSizes P).take i))) (fun _ iv _ => N - (intOf iv).toNat)
 case atStart => exact ⟨0, 0, rfl, by omega, rfl, by omega, grown_refl _ _, Lib.hid (by simp [onesL])⟩
 case round =>
  obtain ⟨i, o, rfl, hi, rfl, hoi, hg, hO⟩ := hrel
  obtain ⟨wo, rfl⟩ : ∃ wo : World, wo = wr := ⟨_, rfl⟩
  by_cases hlt : i < N
  ·have hlt' : (i : Int) < N := by omega
   have hic : i < (iCls P).length := by rw [← HN.out.1]; exact hlt
   have hir : i < (repsOf P).length := by rw [HSS.out.2.2.2]; exact hlt
   have his : i < (iSizes P).length := by rw [HSS.out.2.2.1]; exact hlt
   have hxV := G.rep_vec hic
   have hcz2 := G.size_cz hic
   have hcn := G.cn_rep hic
   have hst := onesL_succ (iSizes P) i his
   have hsb2 := HSS.out.2.1 i his
   have SC := G.cz_sub (U := [gt (repsOf P) i]) (fun y hy => by rw [List.mem_singleton.1 hy]; exact hxV)
   have SCB := G.subB_cseq SC
   have hcl := G.cseq_len SC
   have hgr := grown_trans hgw hg
   obtain ⟨rb, ro, ax, capx, hab, _, _, hcx, hx⟩ := Rows2.at (HR.out wo (grown_trans hgR hg)) i hir
   subst hab
   obtain ⟨zb, zf, hab, _, _, hcs⟩ := Ints.at (HZ.out wo (grown_trans hgZ hg)) i his
   subst hab
   obtain ⟨x, hxe⟩ : ∃ x, x = gt (repsOf P) i := ⟨_, rfl⟩
   obtain ⟨s, hse⟩ : ∃ s, s = gt (iSizes P) i := ⟨_, rfl⟩
   rw [← hxe] at hcx hx hxV hcz2 hcn SC SCB hcl
   rw [← hse] at hcs hcz2 hst hsb2
   have HX := Lib.hid (And.intro hxV (And.intro hcz2 (And.intro hcn (And.intro hst (And.intro SC SCB))))); clear hxV hcz2 hcn hst SC SCB hxe hse hic hir his
   have f1_ : ∀ w', Ext wo w' → w'.cell? ⟨pb, 0, none⟩ = some (.slice a1 n1 c1) := fun w' h => (HA.out w' (grown_trans hgr h)).1.2.1
   have f2_ : ∀ w', Ext wo w' → w'.cell? ⟨pb, 1, none⟩ = some (.slice a2 n2 c2) := fun w' h => (HA.out w' (grown_trans hgr h)).1.2.2.1
   have f3_ : ∀ w', Ext wo w' → w'.cell? ⟨pb, 2, none⟩ = some (.slice a3 n3 c3) := fun w' h => (HA.out w' (grown_trans hgr h)).1.2.2.2.1
   have f4_ : ∀ w', Ext wo w' → w'.cell? ⟨rb, ro + i, none⟩ = some (.slice ax x.length capx) := fun w' h => h.cell hcx (by simp)
   have f5_ : ∀ w', Ext wo w' → w'.cell? ⟨zb, zf + i, none⟩ = some (.int .i64 s) := fun w' h => h.cell hcs (by simp)
   have HFF := Lib.hid (And.intro f1_ (And.intro f2_ (And.intro f3_ (And.intro f4_ f5_)))); clear f5_ hcx hcs
   go_wp2
   go_region_held3 (fun w' => Ext wo w') (first | exact grown_drew _ _ | assumption)
    (first
     | (go_at_call 67; refine Calls.mono (Calls.rel (w0 := wo) (by assumption) (iElCen_ok P hr _ _ _ x _ _ (HA.out _ (grown_trans hgr (by assumption))).2.1 (Ints.ext hx (by assumption)) HX.out.1)) ?_; rintro e6 w6 ⟨v6, rfl, hg6, _, k1, k2, k3, rfl, hC6⟩))
   clear f1_ f2_ f3_ f4_
   have hCr : Rows2 Any w6 (.slice k1 k2 k3) (cseq P (czP P [x])) := Rows2.sub (RowsD.rows (SlO.toD hC6 (by omega))) (fun _ _ _ => trivial)
   have HCR := Lib.hid hCr; clear hCr hC6
   obtain ⟨b0_, b1_, b2_, b3_, _⟩ := id (HA.out w6 (grown_trans hgr hg6)).1
   go_wp2_with fail
   clear b0_ b1_ b2_ b3_
   refine Calls.mono (iOrder_ok P hr w6 _ _ _ _ _ (HA.out w6 (grown_trans hgr hg6)).2.1 HCR.out HX.out.2.2.2.2.2) ?_
   rintro e7 w7 ⟨v7, rfl, hg7, rfl⟩
   obtain ⟨n, hn⟩ : ∃ n, n = szP P (czP P [x]) := ⟨_, rfl⟩
   rw [show prodU P (cseq P (czP P [x])) (cseq P (czP P [x])).length = n from hn.symm]
   have hmul : s * n = ordP P := by rw [hn]; exact HX.out.2.1
   have HM := Lib.hid hmul; clear hmul hn
   have hg67 := grown_trans hg6 hg7
   have f1_ : ∀ w', Ext w7 w' → w'.cell? ⟨pb, 0, none⟩ = some (.slice a1 n1 c1) := fun w' h => HFF.out.1 w' (grown_trans hg67 h)
   have f2_ : ∀ w', Ext w7 w' → w'.cell? ⟨pb, 1, none⟩ = some (.slice a2 n2 c2) := fun w' h => HFF.out.2.1 w' (grown_trans hg67 h)
   have f3_ : ∀ w', Ext w7 w' → w'.cell? ⟨pb, 2, none⟩ = some (.slice a3 n3 c3) := fun w' h => HFF.out.2.2.1 w' (grown_trans hg67 h)
   have f4_ : ∀ w', Ext w7 w' → w'.cell? ⟨rb, ro + i, none⟩ = some (.slice ax x.length capx) := fun w' h => HFF.out.2.2.2.1 w' (grown_trans hg67 h)
   go_wp2
   go_region_held3 (fun w' => Ext w7 w') (first | exact grown_drew _ _ | assumption)
    (first
     | (go_at_call 49; refine Calls.mono (Calls.rel (w0 := w7) (by assumption) (iClsNo_ok P hr _ _ _ x _ _ (HA.out _ (grown_trans hgr (grown_trans hg67 (by assumption)))).2.1 (Ints.ext hx (grown_trans hg67 (by assumption))) HX.out.1 h128)) ?_; rintro e8 w8 ⟨v8, rfl, hg8, _, rfl⟩; rw [show gt (rCls P).1 (num P x).toNat = (i : Int) from HX.out.2.2.1]))
   clear f1_ f2_ f3_ f4_
   have hg68 := grown_trans hg67 hg8
   have f1_ : ∀ w', Ext w8 w' → w'.cell? ⟨pb, 0, none⟩ = some (.slice a1 n1 c1) := fun w' h => HFF.out.1 w' (grown_trans hg68 h)
   have f2_ : ∀ w', Ext w8 w' → w'.cell? ⟨pb, 1, none⟩ = some (.slice a2 n2 c2) := fun w' h => HFF.out.2.1 w' (grown_trans hg68 h)
   have f3_ : ∀ w', Ext w8 w' → w'.cell? ⟨pb, 2, none⟩ = some (.slice a3 n3 c3) := fun w' h => HFF.out.2.2.1 w' (grown_trans hg68 h)
   have f5_ : ∀ w', Ext w8 w' → w'.cell? ⟨zb, zf + i, none⟩ = some (.int .i64 s) := fun w' h => HFF.out.2.2.2.2 w' (grown_trans hg68 h)
   go_wp2
   have hwm : IntKind.i64.wrap (n * s) = ordP P := by
    rw [Int.mul_comm, HM.out]; exact IntWalk.i64_in _ (by omega)
   go_region_held3 (fun w' => Ext w8 w') (first | exact grown_drew _ _ | assumption)
    (first
     | (go_at_call 44; refine Calls.mono (Calls.rel (w0 := w8) (by assumption) (size9_ok P hr _ _ _ (HA.out _ (grown_trans hgr (grown_trans hg68 (by assumption)))).2.1)) ?_; rintro e9 w9 ⟨v9, rfl, hg9, _, rfl⟩))
   clear f1_ f2_ f3_ hwm
   have hc9 := f5_ w9 hg9
   clear f5_
   have hgn := grown_trans hg (grown_trans hg68 hg9)
   by_cases hs1 : s = 1
   ·subst hs1
    have hst2 : o + 1 = onesL ((iSizes P).take (i + 1)) := by rw [HX.out.2.2.2.1, if_pos rfl, hO.out]
    have HST := Lib.hid hst2; clear hst2
    go_wp2
    go_roundw
    case rel => exact ⟨_, _, _, ⟨i + 1, rfl, by omega, o + 1, rfl, by omega, HST⟩, by first | rfl | trivial, by first | rfl | go_num, by first | rfl | go_num⟩
    case measure => simp [intOf]; omega
   ·have hs1b : (s == 1) = false := by simp [hs1]
    have hst2 : o = onesL ((iSizes P).take (i + 1)) := by rw [HX.out.2.2.2.1, if_neg hs1, ← hO.out]; rfl
    have HST := Lib.hid hst2; clear hst2
    go_wp2
    go_roundw
    case rel =>
     (repeat apply Exists.intro)
     refine ⟨?_, rfl⟩
     exact ⟨i + 1, o, by go_num, by omega, rfl, by omega, hgn, HST⟩
    case measure => simp [intOf]; omega
  ·have hie : i = N := by omega
   have hfin : (o : Int) = cz := by
    rw [hO.out, hie, List.take_of_length_le (by rw [HSS.out.2.2.1]; exact Nat.le_refl _), HCZ.out]
    exact G.ones_center
   have HF := Lib.hid hfin; clear hfin
   rw [← HF.out]
   go_wp2
   go_ret
   exact ⟨_, rfl, grown_trans HA0.out.2.1 (grown_trans hgw hg), by simp⟩
end Go.Proofs.YtdcobapnlpeaaaaGreat
