/-
  Plain: depths; every subgroup has a canonical sequence, and every element a representative.
-/
import Derived.Test.YtbfbpjkpoepmkaaSSubAdd
namespace Go.Proofs.Ytbfbpjkpoepmkaa

/-- the first entry that is not 0; the length if there is none -/
def dep (x : List Int) : Nat := x.findIdx (fun e => e != 0)

theorem dep_le (x : List Int) : dep x ≤ x.length := List.findIdx_le_length
theorem dep_zero {x : List Int} {k : Nat} (h : k < dep x) : gt x k = 0 := by
  have hl : k < x.length := Nat.lt_of_lt_of_le h (dep_le x)
  have := List.not_of_lt_findIdx h
  rw [gt_eq x k hl]; simpa using this
theorem dep_ne {x : List Int} (h : dep x < x.length) : gt x (dep x) ≠ 0 := by
  have h2 := List.findIdx_getElem (xs := x) (p := fun e => e != 0) (w := h)
  rw [gt_eq x _ h]
  show ¬ (x[List.findIdx (fun e => e != 0) x] = 0)
  simpa using h2
theorem dep_eq {x : List Int} {d : Nat} (hd : d < x.length) (hz : ∀ k, k < d → gt x k = 0) (h0 : gt x d ≠ 0) : dep x = d := by
  rcases Nat.lt_trichotomy (dep x) d with h | h | h
  · exact absurd (hz _ h) (dep_ne (by omega))
  · exact h
  · exact absurd (dep_zero h) h0
theorem dep_T {P : Pr} {x : List Int} (hx : Vec P.orders x) : T P (dep x) x := ⟨hx, fun _ hk => dep_zero hk⟩
theorem dep_top {P : Pr} {x : List Int} (hP : Valid P) (hx : Vec P.orders x) : dep x = P.orders.length ↔ x = zeros P.orders.length := by
  constructor
  · intro h
    have := dep_T hx
    rw [h] at this
    exact this.top hP
  · intro h
    rcases Nat.lt_or_ge (dep x) x.length with h1 | h1
    · exfalso
      apply dep_ne h1
      have : ∀ k, gt (zeros P.orders.length) k = 0 := fun k => gt_replicate _ _
      rw [h]; exact this _
    · have := dep_le x
      rw [← hx.1]; omega
theorem dep_lead {P : Pr} {x : List Int} {d : Nat} (hd : d < P.orders.length) (hT : T P d x) (h0 : gt x d ≠ 0) : dep x = d := dep_eq (by rw [hT.1.1]; exact hd) hT.2 h0

section
variable {P : Pr} (G : Grp P)
include G

/-- the turn of one entry -/
theorem Grp.clear {d : Nat} (hd : d < P.orders.length) {x z : List Int} (hx : Vec P.orders x) (hz : T P d z) (hz1 : gt z d = 1) (k : Nat) (hk : ((k : Int) + gt x d) % gt P.orders d = 0) :
    gt (rMul P x (pw P z k)) d = 0 ∧ ∀ j, j < d → gt (rMul P x (pw P z k)) j = gt x j := by
  have hp := G.pw_T (Nat.le_of_lt hd) hz k
  have h := G.right (Nat.le_of_lt hd) hx hp
  refine ⟨?_, h.1⟩
  rw [h.2 hd, G.pw_at hd hz, hz1, Int.mul_one, Int.add_emod_emod, Int.add_comm]; exact hk

/-- every element has a representative -/
theorem Grp.rep_from {H : List Int → Prop} {b : Nat → List Int} (I : Ind P H b) (f : Nat) : ∀ d x, d + f = P.orders.length → Vec P.orders x → ∃ y h, H h ∧ T P d h ∧ y = rMul P x h ∧ Vec P.orders y ∧ ∀ e, d ≤ e → e < P.orders.length → b e ≠ [] → gt y e = 0 := by
  induction f with
  | zero =>
    intro d x hd hx
    exact ⟨x, _, I.sub.one, T.zeros G.v d, (G.grp.er x hx).symm, hx, fun e a b' => by omega⟩
  | succ f ih =>
    intro d x hd hx
    have hdn : d < P.orders.length := by omega
    by_cases hb : b d = []
    · obtain ⟨y, h, h1, h2, h3, h4, h5⟩ := ih (d + 1) x (by omega) hx
      refine ⟨y, h, h1, h2.down (Nat.le_succ d), h3, h4, fun e a b' hbe => ?_⟩
      by_cases ed : e = d
      · subst ed; exact absurd hb hbe
      · exact h5 e (by omega) b' hbe
    · obtain ⟨m1, m2, m3⟩ := I.mem d hdn hb
      have ho := G.v.ord7 d hdn
      have hxd := hx.2 d hdn
      have hpv := G.pw_vec m2.1 (gt P.orders d - gt x d).toNat
      have hpT := G.pw_T (Nat.le_of_lt hdn) m2 (gt P.orders d - gt x d).toNat
      have hc := G.clear hdn hx m2 m3 (gt P.orders d - gt x d).toNat (by
        rw [show (((gt P.orders d - gt x d).toNat : Nat) : Int) + gt x d = gt P.orders d by omega, Int.emod_self])
      obtain ⟨y, h, h1, h2, h3, h4, h5⟩ := ih (d + 1) _ (by omega) (G.mulV hx hpv)
      refine ⟨y, rMul P (pw P (b d) (gt P.orders d - gt x d).toNat) h, I.sub.mul _ _ (I.sub.pw m1 _) h1, G.T_mul (Nat.le_of_lt hdn) hpT (h2.down (Nat.le_succ d)), ?_, h4, fun e a b' hbe => ?_⟩
      · rw [h3, G.ass hx hpv h2.1]
      · by_cases ed : e = d
        · subst ed
          rw [h3, (G.right (Nat.succ_le_of_lt hdn) (G.mulV hx hpv) h2).1 e (by omega)]; exact hc.1
        · exact h5 e (by omega) b' hbe

theorem Grp.rep_ex {H : List Int → Prop} {b : Nat → List Int} (I : Ind P H b) {x : List Int} (hx : Vec P.orders x) : ∃ y, Rep P H b x y := by
  obtain ⟨y, h, h1, h2, h3, h4, h5⟩ := G.rep_from I P.orders.length 0 x (by omega) hx
  refine ⟨y, h4, ?_, fun e he hb => h5 e (by omega) he hb⟩
  rw [h3, ← G.ass (G.invV hx) hx h2.1, G.inv_mul hx, G.grp.el _ h2.1]; exact h1

/-- a table can be reduced -/
theorem Grp.red_of_ind {H : List Int → Prop} {b : Nat → List Int} (I : Ind P H b) : ∃ r, Red P H r := by
  have key : ∀ d, ∃ y, (b d = [] → y = []) ∧ (d < P.orders.length → b d ≠ [] → y ≠ [] ∧ H y ∧ T P d y ∧ gt y d = 1 ∧ ∀ e, d < e → e < P.orders.length → b e ≠ [] → gt y e = 0) := by
    intro d
    by_cases hb : b d = []
    · exact ⟨[], fun _ => rfl, fun _ h => absurd hb h⟩
    · by_cases hd : d < P.orders.length
      · obtain ⟨m1, m2, m3⟩ := I.mem d hd hb
        obtain ⟨y, h, h1, h2, h3, h4, h5⟩ := G.rep_from I (P.orders.length - (d + 1)) (d + 1) (b d) (by omega) m2.1
        have hyT : T P d y := by rw [h3]; exact G.T_mul (Nat.le_of_lt hd) m2 (h2.down (Nat.le_succ d))
        refine ⟨y, fun h => absurd h hb, fun _ _ => ⟨?_, ?_, hyT, ?_, fun e a b' hbe => h5 e (by omega) b' hbe⟩⟩
        · intro e
          have := h4.1
          rw [e] at this; simp at this; omega
        · rw [h3]; exact I.sub.mul _ _ m1 h1
        · rw [h3, (G.right (Nat.succ_le_of_lt hd) m2.1 h2).1 d (by omega)]; exact m3
      · exact ⟨[], fun _ => rfl, fun h => absurd h hd⟩
  have hex := fun d => key d
  refine ⟨fun d => Classical.choose (hex d), ⟨⟨I.sub, fun d hd hr => ?_, fun x hx d hd hT h0 => ?_⟩, fun d e hde he h1 h2 => ?_⟩⟩
  · have s := Classical.choose_spec (hex d)
    have hb : b d ≠ [] := fun h => hr (s.1 h)
    have := s.2 hd hb
    exact ⟨this.2.1, this.2.2.1, this.2.2.2.1⟩
  · have s := Classical.choose_spec (hex d)
    exact (s.2 hd (I.piv x hx d hd hT h0)).1
  · have s := Classical.choose_spec (hex d)
    have s2 := Classical.choose_spec (hex e)
    have hb : b d ≠ [] := fun h => h1 (s.1 h)
    have hb2 : b e ≠ [] := fun h => h2 (s2.1 h)
    exact (s.2 (by omega) hb).2.2.2.2 e hde he hb2

omit G in
/-- a unit modulo a prime up to 7 -/
theorem unit_ex {o a : Int} (ho : o = 2 ∨ o = 3 ∨ o = 5 ∨ o = 7) (ha : 0 < a) (hao : a < o) : ∃ k : Nat, ((k : Int) * a) % o = 1 := by
  rcases ho with rfl | rfl | rfl | rfl
  · exact ⟨1, by have : a = 1 := by omega
                 subst this; rfl⟩
  · rcases (show a = 1 ∨ a = 2 by omega) with rfl | rfl
    · exact ⟨1, rfl⟩
    · exact ⟨2, rfl⟩
  · rcases (show a = 1 ∨ a = 2 ∨ a = 3 ∨ a = 4 by omega) with rfl | rfl | rfl | rfl
    · exact ⟨1, rfl⟩
    · exact ⟨3, rfl⟩
    · exact ⟨2, rfl⟩
    · exact ⟨4, rfl⟩
  · rcases (show a = 1 ∨ a = 2 ∨ a = 3 ∨ a = 4 ∨ a = 5 ∨ a = 6 by omega) with rfl | rfl | rfl | rfl | rfl | rfl
    · exact ⟨1, rfl⟩
    · exact ⟨4, rfl⟩
    · exact ⟨5, rfl⟩
    · exact ⟨2, rfl⟩
    · exact ⟨3, rfl⟩
    · exact ⟨6, rfl⟩

open Classical in
/-- every subgroup has a table -/
theorem Grp.ind_ex {H : List Int → Prop} (S : Sub P H) : ∃ b, Ind P H b := by
  refine ⟨fun d => if h : ∃ y, d < P.orders.length ∧ H y ∧ T P d y ∧ gt y d = 1 then Classical.choose h else [], S, fun d _ hb => ?_, fun x hx d hd hT h0 => ?_⟩
  · by_cases h : ∃ y, d < P.orders.length ∧ H y ∧ T P d y ∧ gt y d = 1
    · simp only [dif_pos h] at hb ⊢
      exact (Classical.choose_spec h).2
    · simp only [dif_neg h] at hb; exact absurd rfl hb
  · have hxd := hT.1.2 d hd
    obtain ⟨k, hk⟩ := unit_ex (G.v.ord d hd) (by omega) hxd.2
    have h : ∃ y, d < P.orders.length ∧ H y ∧ T P d y ∧ gt y d = 1 := ⟨pw P x k, hd, S.pw hx k, G.pw_T (Nat.le_of_lt hd) hT k, by rw [G.pw_at hd hT]; exact hk⟩
    simp only [dif_pos h]
    have hc := (Classical.choose_spec h).2.2.1.1.1
    intro e
    rw [e] at hc; simp at hc; omega

open Classical in
/-- THE canonical sequence of a subgroup -/
noncomputable def cseq (P : Pr) (H : List Int → Prop) : List (List Int) := if h : ∃ r, Red P H r then seqOf P.orders.length (Classical.choose h) else []

theorem Grp.cseq_red {H : List Int → Prop} {r : Nat → List Int} (A : Red P H r) : cseq P H = seqOf P.orders.length r := by
  unfold cseq
  have h : ∃ r, Red P H r := ⟨r, A⟩
  rw [dif_pos h]
  exact G.seq_one (Classical.choose_spec h) A
theorem Grp.cseq_spec {H : List Int → Prop} (S : Sub P H) : ∃ r, Red P H r ∧ cseq P H = seqOf P.orders.length r := by
  obtain ⟨b, I⟩ := G.ind_ex S
  obtain ⟨r, A⟩ := G.red_of_ind I
  exact ⟨r, A, G.cseq_red A⟩

end

/-! ### a sequence as a list -/
def depsOf (n : Nat) (r : Nat → List Int) : List Nat := (List.range n).filter (fun d => decide (r d ≠ []))
theorem seqOf_map (n : Nat) (r : Nat → List Int) : seqOf n r = (depsOf n r).map r := by
  unfold seqOf depsOf
  induction n with
  | zero => rfl
  | succ n ih =>
    rw [List.range_succ, List.filterMap_append, List.filter_append, List.map_append, ih]
    by_cases h : r n = [] <;> simp [h]
theorem depsOf_mem {n : Nat} {r : Nat → List Int} {d : Nat} : d ∈ depsOf n r ↔ d < n ∧ r d ≠ [] := by unfold depsOf; simp
theorem depsOf_sorted (n : Nat) (r : Nat → List Int) : (depsOf n r).Pairwise (fun a b => a < b) := List.Pairwise.filter _ List.pairwise_lt_range

end Go.Proofs.Ytbfbpjkpoepmkaa
