/-
  Plain: in a consistent presentation the program's classes are the reference's: what the program collects of a member is its conjugacy class, and both count the same sizes.
-/
import Derived.Test.YtdfjgpioaomceaaInv
import Derived.Test.YtdfjgpioaomceaaElNum
import Derived.Test.YtdfjgpioaomceaaCls
namespace Go.Proofs.Ytdfjgpioaomceaa

section
variable {P : Pr} (G : Grp P)
include G

/-- y is a conjugate of x -/
def Cj (P : Pr) (x y : List Int) : Prop := ∃ g, Vec P.orders g ∧ y = rConj P x g

omit G in
theorem mem_addZ (hP : Valid P) {L : List (List Int)} (hL : OrbI P L) {z : List Int} (hz : Vec P.orders z) (y : List Int) : y ∈ addZ P L z ↔ y ∈ L ∨ y = z := by
  unfold addZ
  split
  · rename_i h
    obtain ⟨u, hu, hn⟩ := List.mem_map.1 h
    have : u = z := num_inj hP (hL.vec u hu) hz hn
    subst this
    constructor
    · exact fun h => .inl h
    · rintro (h | h)
      · exact h
      · rw [h]; exact hu
  · simp

theorem Grp.orbIn_mem {L : List (List Int)} (hL : OrbI P L) {y : List Int} (hy : Vec P.orders y) (g : Nat) : ∀ z, z ∈ orbIn P y L g ↔ z ∈ L ∨ ∃ j, j < g ∧ z = rConj P y (unitV P.orders.length j) := by
  induction g with
  | zero =>
    intro z
    simp only [orbIn]
    exact ⟨fun h => .inl h, fun h => h.elim id (fun ⟨j, hj, _⟩ => by omega)⟩
  | succ g ih =>
    intro z
    simp only [orbIn]
    rw [mem_addZ G.v (hL.inn G.v hy g) (iConj_vec G.v y _ hy (unitV_vec G.v g)), ih z, G.iConj_eq hy (unitV_vec G.v g)]
    constructor
    · rintro ((h | ⟨j, hj, h⟩) | h)
      · exact .inl h
      · exact .inr ⟨j, by omega, h⟩
      · exact .inr ⟨g, by omega, h⟩
    · rintro (h | ⟨j, hj, h⟩)
      · exact .inl (.inl h)
      · by_cases e : j = g
        · subst e; exact .inr h
        · exact .inl (.inr ⟨j, by omega, h⟩)

omit G in
theorem gt_append_pre {α : Type} [Inhabited α] {L M : List α} {j : Nat} (h : j < L.length) : gt (L ++ M) j = gt L j := gt_append_left L M j h

/-- the breadth-first walk closes the orbit -/
theorem Grp.orbTo_spec {x : List Int} (hx : Vec P.orders x) (f : Nat) : ∀ (i : Nat) (L : List (List Int)), f + i = (ordP P).toNat + 1 → i ≤ L.length → OrbI P L → x ∈ L → (∀ y ∈ L, Cj P x y) →
    (∀ j, j < i → ∀ g, g < P.orders.length → rConj P (gt L j) (unitV P.orders.length g) ∈ L) →
    OrbI P (orbTo P f i L) ∧ x ∈ orbTo P f i L ∧ (∀ y ∈ orbTo P f i L, Cj P x y) ∧ ∀ y ∈ orbTo P f i L, ∀ g, g < P.orders.length → rConj P y (unitV P.orders.length g) ∈ orbTo P f i L := by
  induction f with
  | zero =>
    intro i L hf hi hL _ _ _
    have := hL.len G.v
    omega
  | succ f ih =>
    intro i L hf hi hL hxL hcj hcl
    simp only [orbTo]
    by_cases hlt : i < L.length
    · rw [if_pos hlt]
      have hy := hL.vec _ (gt_mem hlt)
      have hmem := G.orbIn_mem hL hy P.orders.length
      obtain ⟨M, hM⟩ := orbIn_pre P (gt L i) L P.orders.length
      have hlen : L.length ≤ (orbIn P (gt L i) L P.orders.length).length := by rw [hM, List.length_append]; omega
      refine ih (i + 1) _ (by omega) (by omega) (hL.inn G.v hy _) ((hmem x).2 (.inl hxL)) ?_ ?_
      · intro y hyy
        rcases (hmem y).1 hyy with h | ⟨j, hj, h⟩
        · exact hcj y h
        · obtain ⟨g, hg, h2⟩ := hcj _ (gt_mem hlt)
          refine ⟨rMul P g (unitV P.orders.length j), G.mulV hg (unitV_vec G.v j), ?_⟩
          rw [h, h2, G.conj_mul hx hg (unitV_vec G.v j)]
      · intro j hj g hg
        have e : gt (orbIn P (gt L i) L P.orders.length) j = gt L j := by rw [hM]; exact gt_append_left _ _ _ (by omega)
        rw [e]
        by_cases ej : j = i
        · rw [ej]; exact (hmem _).2 (.inr ⟨g, hg, rfl⟩)
        · exact (hmem _).2 (.inl (hcl j (by omega) g hg))
    · rw [if_neg hlt]
      have : i = L.length := by omega
      refine ⟨hL, hxL, hcj, fun y hy g hg => ?_⟩
      obtain ⟨j, hj, rfl⟩ := mem_gt hy
      exact hcl j (by omega) g hg

/-- what the program collects of x is the conjugacy class of x -/
theorem Grp.orb_spec {x : List Int} (hx : Vec P.orders x) : OrbI P (orb P x) ∧ ∀ y, y ∈ orb P x ↔ Cj P x y := by
  obtain ⟨h1, h2, h3, h4⟩ := G.orbTo_spec hx ((ordP P).toNat + 1) 0 [x] rfl (by simp) (OrbI.single hx) (by simp) (fun y hy => by
    rw [List.mem_singleton.1 hy]; exact ⟨_, G.oneV, (G.conj_one hx).symm⟩) (fun j hj => by omega)
  refine ⟨h1, fun y => ⟨h3 y, ?_⟩⟩
  rintro ⟨g, hg, rfl⟩
  have key := G.gen_ind (fun g => ∀ y ∈ orb P x, rConj P y g ∈ orb P x) (fun y hy => by rw [G.conj_one (h1.vec y hy)]; exact hy) (fun u j hu ih hj y hy => by
    rw [← G.conj_mul (h1.vec y hy) hu (unitV_vec G.v j)]
    exact h4 _ (ih y hy) j hj) hg
  exact key x h2

theorem Grp.Cj_refl {x : List Int} (hx : Vec P.orders x) : Cj P x x := ⟨_, G.oneV, (G.conj_one hx).symm⟩
theorem Grp.Cj_symm {x y : List Int} (hx : Vec P.orders x) (h : Cj P x y) : Cj P y x := by
  obtain ⟨g, hg, rfl⟩ := h
  exact ⟨rInv P g, G.invV hg, (G.conj_back hx hg).symm⟩
theorem Grp.Cj_trans {x y z : List Int} (hx : Vec P.orders x) (h : Cj P x y) (k : Cj P y z) : Cj P x z := by
  obtain ⟨g, hg, rfl⟩ := h
  obtain ⟨u, hu, rfl⟩ := k
  exact ⟨_, G.mulV hg hu, G.conj_mul hx hg hu⟩
theorem Grp.Cj_vec {x y : List Int} (hx : Vec P.orders x) (h : Cj P x y) : Vec P.orders y := by
  obtain ⟨g, hg, rfl⟩ := h
  exact G.conjV hx hg

/-- the marks of the reference -/
theorem Grp.marks_spec {x : List Int} (hx : Vec P.orders x) (k : Nat) (hk : k ≤ (ordP P).toNat) : ∀ t, t < (ordP P).toNat → (gt (marksTo P x k) t = true ↔ ∃ j, j < k ∧ rConj P x (elAt P (j : Int)) = elAt P (t : Int)) := by
  induction k with
  | zero =>
    intro t ht
    simp only [marksTo]
    have : gt (List.replicate (ordP P).toNat false) t = false := by simp [gt, ht]
    rw [this]
    constructor
    · intro h; cases h
    · rintro ⟨j, hj, _⟩; omega
  | succ k ih =>
    intro t ht
    simp only [marksTo]
    rw [gt_set _ _ _ _ (by rw [marksTo_len]; exact ht)]
    have hv := G.conjV hx (elAt_vec G.v (k : Int) (by omega))
    have hb := num_bd G.v hv
    by_cases e : (num P (rConj P x (elAt P (k : Int)))).toNat = t
    · rw [if_pos e]
      constructor
      · intro _
        refine ⟨k, by omega, ?_⟩
        rw [← e, show (((num P (rConj P x (elAt P (k : Int)))).toNat : Nat) : Int) = num P (rConj P x (elAt P (k : Int))) by omega, elAt_num G.v hv]
      · intro _; rfl
    · rw [if_neg e, ih (by omega) t ht]
      constructor
      · rintro ⟨j, hj, h⟩; exact ⟨j, by omega, h⟩
      · rintro ⟨j, hj, h⟩
        by_cases ej : j = k
        · subst ej
          exfalso; apply e
          rw [h, num_elAt G.v _ (by omega) (by omega)]
          omega
        · exact ⟨j, by omega, h⟩

theorem Grp.marks_cj {x : List Int} (hx : Vec P.orders x) (t : Nat) (ht : t < (ordP P).toNat) : gt (marksTo P x (ordP P).toNat) t = true ↔ Cj P x (elAt P (t : Int)) := by
  rw [G.marks_spec hx _ (Nat.le_refl _) t ht]
  constructor
  · rintro ⟨j, hj, h⟩; exact ⟨_, elAt_vec G.v (j : Int) (by omega), h.symm⟩
  · rintro ⟨g, hg, h⟩
    have hb := num_bd G.v hg
    refine ⟨(num P g).toNat, by omega, ?_⟩
    rw [show (((num P g).toNat : Nat) : Int) = num P g by omega, elAt_num G.v hg, h]

omit G in
theorem paint_gt (m : List Bool) (c : Int) (L : List Int) (j : Nat) : ∀ t, t < L.length → gt (paint m c L j) t = if t < j ∧ gt m t = true then c else gt L t := by
  induction j with
  | zero => intro t ht; rw [if_neg (by omega)]; rfl
  | succ j ih =>
    intro t ht
    simp only [paint]
    by_cases hm : gt m j = true
    · rw [if_pos hm, gt_set _ _ _ _ (by rw [paint_len]; exact ht)]
      by_cases e : j = t
      · subst e; rw [if_pos rfl, if_pos ⟨by omega, hm⟩]
      · rw [if_neg e, ih t ht]
        by_cases h2 : t < j ∧ gt m t = true
        · rw [if_pos h2, if_pos ⟨by omega, h2.2⟩]
        · rw [if_neg h2, if_neg (fun h => h2 ⟨by omega, h.2⟩)]
    · rw [if_neg hm, ih t ht]
      by_cases h2 : t < j ∧ gt m t = true
      · rw [if_pos h2, if_pos ⟨by omega, h2.2⟩]
      · rw [if_neg h2, if_neg (fun h => h2 ⟨by
          rcases Nat.lt_succ_iff_lt_or_eq.1 h.1 with h3 | h3
          · exact h3
          · subst h3; exact absurd h.2 hm, h.2⟩)]

omit G in
theorem fill_gt (N j : Nat) (hj : j ≤ N) : ∀ t, t < j → gt (fillTo N j) t = -1 := by
  induction j with
  | zero => intro t ht; omega
  | succ j ih =>
    intro t ht
    simp only [fillTo]
    rw [gt_set _ _ _ _ (by rw [fillTo_len]; omega)]
    split
    · rfl
    · exact ih (by omega) t (by omega)

/-- one class of the program -/
structure ClsOk (P : Pr) (C : List (List Int)) : Prop where
  nd : C.Nodup
  so : SortedL C
  vec : ∀ y ∈ C, Vec P.orders y
  cj : ∀ y ∈ C, ∀ z, z ∈ C ↔ Cj P y z

/-- both sides' classes after k elements -/
structure ClsInv (P : Pr) (k : Nat) : Prop where
  num : (clsTo P k).2 = (iClsTo P k).length
  ok : ∀ C ∈ iClsTo P k, ClsOk P C
  done : ∀ t, t < k → 0 ≤ gt (clsTo P k).1 t
  at_ : ∀ t, t < (ordP P).toNat → (gt (clsTo P k).1 t = -1 ∧ ∀ C ∈ iClsTo P k, elAt P (t : Int) ∉ C) ∨
    ∃ j : Nat, gt (clsTo P k).1 t = j ∧ j < (iClsTo P k).length ∧ elAt P (t : Int) ∈ gt (iClsTo P k) j ∧ ∀ j', j' < (iClsTo P k).length → elAt P (t : Int) ∈ gt (iClsTo P k) j' → j' = j

theorem Grp.sortL_ok {x : List Int} (hx : Vec P.orders x) : ClsOk P (sortL (orb P x)) ∧ ∀ y, y ∈ sortL (orb P x) ↔ Cj P x y := by
  obtain ⟨h1, h2⟩ := G.orb_spec hx
  have hp := sortL_perm (orb P x)
  have hm : ∀ y, y ∈ sortL (orb P x) ↔ Cj P x y := fun y => hp.mem_iff.trans (h2 y)
  have hnd : (orb P x).Nodup := by
    have h3 := h1.nd
    unfold List.Nodup at h3 ⊢
    rw [List.pairwise_map] at h3
    exact h3.imp (fun h e => h (by rw [e]))
  refine ⟨⟨(hp.nodup_iff).2 hnd, sortL_sorted _, fun y hy => G.Cj_vec hx ((hm y).1 hy), fun y hy z => ?_⟩, hm⟩
  rw [hm z]
  have hxy := (hm y).1 hy
  constructor
  · intro h; exact G.Cj_trans (G.Cj_vec hx hxy) (G.Cj_symm hx hxy) h
  · intro h; exact G.Cj_trans hx hxy h

theorem Grp.cls_inv (k : Nat) (hk : k ≤ (ordP P).toNat) : ClsInv P k := by
  induction k with
  | zero =>
    refine ⟨rfl, fun C h => (by cases h), fun t ht => by omega, fun t ht => .inl ⟨?_, fun C h => (by cases h)⟩⟩
    simp only [clsTo]
    exact fill_gt _ _ (Nat.le_refl _) t ht
  | succ k ih =>
    have I := ih (by omega)
    have hany : ((iClsTo P k).any (fun C => bsFound C (elAt P (k : Int))) = true) ↔ ∃ C ∈ iClsTo P k, elAt P (k : Int) ∈ C := by
      rw [List.any_eq_true]
      constructor
      · rintro ⟨C, hC, h⟩
        rw [bsFound_mem _ _ (I.ok C hC).so] at h
        exact ⟨C, hC, of_decide_eq_true h⟩
      · rintro ⟨C, hC, h⟩
        refine ⟨C, hC, ?_⟩
        rw [bsFound_mem _ _ (I.ok C hC).so]
        exact decide_eq_true h
    have hkN : k < (ordP P).toNat := by omega
    by_cases h0 : 0 ≤ gt (clsTo P k).1 k
    · -- already painted
      have hin : (iClsTo P k).any (fun C => bsFound C (elAt P (k : Int))) = true := by
        rw [hany]
        rcases I.at_ k hkN with ⟨h1, _⟩ | ⟨j, h1, h2, h3, _⟩
        · omega
        · exact ⟨_, gt_mem h2, h3⟩
      have e1 : clsTo P (k + 1) = clsTo P k := by rw [clsTo, if_pos h0]
      have e2 : iClsTo P (k + 1) = iClsTo P k := by rw [iClsTo, if_pos hin]
      refine ⟨by rw [e1, e2]; exact I.num, by rw [e2]; exact I.ok, fun t ht => ?_, by rw [e1, e2]; exact I.at_⟩
      rw [e1]
      rcases Nat.lt_succ_iff_lt_or_eq.1 ht with h | h
      · exact I.done t h
      · rw [h]; exact h0
    · have hnot : ∀ C ∈ iClsTo P k, elAt P (k : Int) ∉ C := by
        rcases I.at_ k hkN with ⟨_, h2⟩ | ⟨j, h1, _⟩
        · exact h2
        · omega
      have hin : ¬ (iClsTo P k).any (fun C => bsFound C (elAt P (k : Int))) = true := by
        rw [hany]; rintro ⟨C, hC, h⟩; exact hnot C hC h
      have hxk := elAt_vec G.v (k : Int) (by omega)
      obtain ⟨hok, hmem⟩ := G.sortL_ok hxk
      have e1 : clsTo P (k + 1) = (paint (marksTo P (elAt P (k : Int)) (ordP P).toNat) (clsTo P k).2 (clsTo P k).1 (ordP P).toNat, (clsTo P k).2 + 1) := by rw [clsTo, if_neg h0]
      have e2 : iClsTo P (k + 1) = iClsTo P k ++ [sortL (orb P (elAt P (k : Int)))] := by rw [iClsTo, if_neg hin]
      have hpg : ∀ t, t < (ordP P).toNat → gt (clsTo P (k + 1)).1 t = if gt (marksTo P (elAt P (k : Int)) (ordP P).toNat) t = true then ((clsTo P k).2 : Int) else gt (clsTo P k).1 t := fun t ht => by
        rw [e1]
        simp only
        rw [paint_gt _ _ _ _ t (by rw [clsTo_len]; exact ht)]
        by_cases hm : gt (marksTo P (elAt P (k : Int)) (ordP P).toNat) t = true
        · rw [if_pos ⟨ht, hm⟩, if_pos hm]
        · rw [if_neg (fun h => hm h.2), if_neg hm]
      -- a member of the new class stands in no old one
      have hdis : ∀ t, t < (ordP P).toNat → Cj P (elAt P (k : Int)) (elAt P (t : Int)) → ∀ C ∈ iClsTo P k, elAt P (t : Int) ∉ C := fun t ht h C hC hc =>
        hnot C hC (((I.ok C hC).cj _ hc _).2 (G.Cj_symm hxk h))
      have hnewat : gt (iClsTo P (k + 1)) (iClsTo P k).length = sortL (orb P (elAt P (k : Int))) := by rw [e2]; exact gt_concat _ _
      have hold : ∀ j, j < (iClsTo P k).length → gt (iClsTo P (k + 1)) j = gt (iClsTo P k) j := fun j hj => by rw [e2]; exact gt_append_left _ _ _ hj
      have hlen : (iClsTo P (k + 1)).length = (iClsTo P k).length + 1 := by rw [e2, List.length_append]; rfl
      have hat : ∀ t, t < (ordP P).toNat → (gt (clsTo P (k + 1)).1 t = -1 ∧ ∀ C ∈ iClsTo P (k + 1), elAt P (t : Int) ∉ C) ∨
          ∃ j : Nat, gt (clsTo P (k + 1)).1 t = j ∧ j < (iClsTo P (k + 1)).length ∧ elAt P (t : Int) ∈ gt (iClsTo P (k + 1)) j ∧ ∀ j', j' < (iClsTo P (k + 1)).length → elAt P (t : Int) ∈ gt (iClsTo P (k + 1)) j' → j' = j := fun t ht => by
        rw [hpg t ht]
        by_cases hm : gt (marksTo P (elAt P (k : Int)) (ordP P).toNat) t = true
        · rw [if_pos hm]
          have hc := (G.marks_cj hxk t ht).1 hm
          refine .inr ⟨(iClsTo P k).length, by rw [I.num], by omega, by rw [hnewat]; exact (hmem _).2 hc, fun j' hj' h => ?_⟩
          by_cases hlt : j' < (iClsTo P k).length
          · rw [hold j' hlt] at h
            exact absurd h (hdis t ht hc _ (gt_mem hlt))
          · omega
        · rw [if_neg hm]
          have hc : ¬ Cj P (elAt P (k : Int)) (elAt P (t : Int)) := fun h => hm ((G.marks_cj hxk t ht).2 h)
          rcases I.at_ t ht with ⟨h1, h2⟩ | ⟨j, h1, h2, h3, h4⟩
          · refine .inl ⟨h1, fun C hC => ?_⟩
            rw [e2, List.mem_append] at hC
            rcases hC with hC | hC
            · exact h2 C hC
            · rw [List.mem_singleton.1 hC]; exact fun h => hc ((hmem _).1 h)
          · refine .inr ⟨j, h1, by omega, by rw [hold j h2]; exact h3, fun j' hj' h => ?_⟩
            by_cases hlt : j' < (iClsTo P k).length
            · rw [hold j' hlt] at h; exact h4 j' hlt h
            · have : j' = (iClsTo P k).length := by omega
              rw [this, hnewat] at h
              exact absurd ((hmem _).1 h) hc
      refine ⟨by rw [e1, hlen]; simp only; rw [I.num], fun C hC => ?_, fun t ht => ?_, hat⟩
      · rw [e2, List.mem_append] at hC
        rcases hC with hC | hC
        · exact I.ok C hC
        · rw [List.mem_singleton.1 hC]; exact hok
      · rw [hpg t (by omega)]
        split
        · omega
        · rename_i hm
          rcases Nat.lt_succ_iff_lt_or_eq.1 ht with h | h
          · exact I.done t h
          · exfalso; apply hm; rw [h]; exact (G.marks_cj hxk k hkN).2 (G.Cj_refl hxk)

/-- every element has the number of its class -/
theorem Grp.rCls_bd : ∀ k, k < (ordP P).toNat → 0 ≤ gt (rCls P).1 k ∧ gt (rCls P).1 k < (rCls P).2 := by
  intro k hk
  have I := G.cls_inv (ordP P).toNat (Nat.le_refl _)
  have h1 := I.done k hk
  refine ⟨h1, ?_⟩
  unfold rCls
  rcases I.at_ k hk with ⟨h2, _⟩ | ⟨j, h2, h3, _⟩
  · omega
  · rw [h2, I.num]; omega

omit G in
theorem cnt_gt (L : List Int) (c k : Nat) (hb : ∀ t, t < k → 0 ≤ gt L t ∧ gt L t < c) : ∀ j, j < c → gt (cntTo L c k) j = (((List.range k).filter (fun t => decide (gt L t = (j : Int)))).length : Nat) := by
  induction k with
  | zero => intro j hj; simp [cntTo, gt, hj]
  | succ k ih =>
    intro j hj
    have hk := hb k (by omega)
    simp only [cntTo]
    rw [gt_set _ _ _ _ (by rw [cntTo_len]; exact hj), List.range_succ, List.filter_append, List.length_append]
    have ihj := ih (fun t ht => hb t (by omega)) j hj
    by_cases e : gt L k = (j : Int)
    · have e' : (gt L k).toNat = j := by omega
      rw [if_pos e', e', ihj]
      simp [e]
    · have e' : ¬ (gt L k).toNat = j := by omega
      rw [if_neg e', ihj]
      simp [e]

/-- both sides count the same sizes -/
theorem Grp.sizes_eq : iSizes P = rSizes P := by
  have I := G.cls_inv (ordP P).toNat (Nat.le_refl _)
  have hbd := G.rCls_bd
  unfold iSizes rSizes
  refine ext_gt ?_ (fun j hj => ?_)
  · rw [List.length_map, cntTo_len]; exact I.num.symm
  · rw [List.length_map] at hj
    have hj2 : j < (rCls P).2 := by show j < (clsTo P _).2; rw [I.num]; exact hj
    rw [gt_map _ _ _ hj, cnt_gt _ _ _ hbd j hj2]
    congr 1
    have ok := I.ok _ (gt_mem hj)
    have hnd : (((List.range (ordP P).toNat).filter (fun t => decide (gt (rCls P).1 t = (j : Int)))).map (fun t : Nat => elAt P (t : Int))).Nodup := by
      unfold List.Nodup
      rw [List.pairwise_map]
      have h1 : ((List.range (ordP P).toNat).filter (fun t => decide (gt (rCls P).1 t = (j : Int)))).Pairwise (fun a b => a ≠ b) := List.Pairwise.filter _ List.nodup_range
      refine List.Pairwise.imp_of_mem ?_ h1
      intro a b ha hb hne e
      have ha' := List.mem_range.1 (List.mem_filter.1 ha).1
      have hb' := List.mem_range.1 (List.mem_filter.1 hb).1
      have := congrArg (num P) e
      rw [num_elAt G.v _ (by omega) (by omega), num_elAt G.v _ (by omega) (by omega)] at this
      omega
    have hperm : (gt (iCls P) j).Perm (((List.range (ordP P).toNat).filter (fun t => decide (gt (rCls P).1 t = (j : Int)))).map (fun t : Nat => elAt P (t : Int))) := by
      refine (List.perm_ext_iff_of_nodup ok.nd hnd).2 (fun y => ?_)
      rw [List.mem_map]
      constructor
      · intro hy
        have hv := ok.vec y hy
        have hb := num_bd G.v hv
        have hey : elAt P (((num P y).toNat : Nat) : Int) = y := by
          rw [show (((num P y).toNat : Nat) : Int) = num P y by omega]; exact elAt_num G.v hv
        refine ⟨(num P y).toNat, List.mem_filter.2 ⟨List.mem_range.2 (by omega), decide_eq_true ?_⟩, hey⟩
        rcases I.at_ (num P y).toNat (by omega) with ⟨_, h2⟩ | ⟨j', h1, h2, h3, h4⟩
        · exact absurd hy (by rw [← hey]; exact h2 _ (gt_mem hj))
        · have : j = j' := h4 j hj (by rw [hey]; exact hy)
          rw [this]; exact h1
      · rintro ⟨t, ht, rfl⟩
        have ht1 := List.mem_range.1 (List.mem_filter.1 ht).1
        have ht2 : gt (rCls P).1 t = (j : Int) := of_decide_eq_true (List.mem_filter.1 ht).2
        rcases I.at_ t ht1 with ⟨h1, _⟩ | ⟨j', h1, h2, h3, _⟩
        · have h1' : gt (rCls P).1 t = -1 := h1
          omega
        · have h1' : gt (rCls P).1 t = (j' : Int) := h1
          have : j' = j := by omega
          rw [← this]; exact h3
    rw [hperm.length_eq, List.length_map]

end

end Go.Proofs.Ytdfjgpioaomceaa
