/-
  Plain: the canonical sequence of a subgroup is one: a table that is reduced is determined by the subgroup; so are representatives of cosets.
-/
import Derived.Test.YtbfbpjkpoepmkaaSSub
namespace Go.Proofs.Ytbfbpjkpoepmkaa

/-- a vector other than the neutral one has a depth -/
theorem depth_ex {P : Pr} {x : List Int} (hx : Vec P.orders x) (h : x ≠ zeros P.orders.length) : ∃ d, d < P.orders.length ∧ T P d x ∧ gt x d ≠ 0 := by
  have key : ∀ f d, d + f = P.orders.length → T P d x → ∃ d, d < P.orders.length ∧ T P d x ∧ gt x d ≠ 0 := by
    intro f
    induction f with
    | zero =>
      intro d hd hT
      exfalso; apply h
      have : d = P.orders.length := by omega
      subst this
      exact ext_gt (by rw [hx.1]; simp [zeros]) (fun k hk => by
        rw [hx.1] at hk
        rw [hT.2 k hk]; exact (gt_replicate _ _).symm)
    | succ f ih =>
      intro d hd hT
      by_cases h0 : gt x d = 0
      · exact ih (d + 1) (by omega) (hT.up h0)
      · exact ⟨d, by omega, hT, h0⟩
  exact key P.orders.length 0 (by omega) (T_zero.2 hx)

/-- a reduced table that induces a subgroup -/
structure Red (P : Pr) (H : List Int → Prop) (r : Nat → List Int) : Prop extends Ind P H r where
  red : ∀ d e, d < e → e < P.orders.length → r d ≠ [] → r e ≠ [] → gt (r d) e = 0

/-- a table as a sequence -/
def seqOf (n : Nat) (r : Nat → List Int) : List (List Int) := (List.range n).filterMap (fun d => if r d = [] then none else some (r d))

section
variable {P : Pr} (G : Grp P)
include G

/-- y is the representative of x for a subgroup with the table r -/
def Rep (P : Pr) (H : List Int → Prop) (r : Nat → List Int) (x y : List Int) : Prop := Vec P.orders y ∧ H (rMul P (rInv P x) y) ∧ ∀ e, e < P.orders.length → r e ≠ [] → gt y e = 0

theorem Grp.coset_one {H : List Int → Prop} {b : Nat → List Int} (I : Ind P H b) {x y : List Int} (hx : Vec P.orders x) (hy : Vec P.orders y) (h : H (rMul P (rInv P x) y))
    (hx0 : ∀ e, e < P.orders.length → b e ≠ [] → gt x e = 0) (hy0 : ∀ e, e < P.orders.length → b e ≠ [] → gt y e = 0) : x = y := by
  have hxi := G.invV hx
  have e1 : rMul P x (rMul P (rInv P x) y) = y := by rw [← G.ass hx hxi hy, G.mul_inv hx, G.grp.el _ hy]
  by_cases hz : rMul P (rInv P x) y = zeros P.orders.length
  · rw [hz, G.grp.er _ hx] at e1; exact e1
  · exfalso
    have hzv := I.sub.vec _ h
    obtain ⟨e, he, hT, h0⟩ := depth_ex hzv hz
    have hp := I.piv _ h e he hT h0
    have h2 := (G.right (Nat.le_of_lt he) hx hT).2 he
    rw [e1, hx0 e he hp, hy0 e he hp, Int.zero_add] at h2
    have hb := hzv.2 e he
    rw [Int.emod_eq_of_lt hb.1 hb.2] at h2
    exact h0 h2.symm

theorem Grp.rep_one {H : List Int → Prop} {b : Nat → List Int} (I : Ind P H b) {x y y' : List Int} (hx : Vec P.orders x) (h : Rep P H b x y) (h' : Rep P H b x y') : y = y' := by
  refine G.coset_one I h.1 h'.1 ?_ h.2.2 h'.2.2
  have hi := G.invV hx
  have hyi := G.invV h.1
  have e : rMul P (rInv P y) y' = rMul P (rInv P (rMul P (rInv P x) y)) (rMul P (rInv P x) y') := by
    rw [G.inv_mulR hi h.1, G.inv_inv hx, G.ass hyi hx (G.mulV hi h'.1), ← G.ass hx hi h'.1, G.mul_inv hx, G.grp.el _ h'.1]
  rw [e]; exact I.sub.mul _ _ (I.sub.inv _ h.2.1) h'.2.1

theorem Grp.red_one {H : List Int → Prop} {r r' : Nat → List Int} (A : Red P H r) (B : Red P H r') : ∀ d, d < P.orders.length → r d = r' d := by
  intro d hd
  have pres : ∀ {s s' : Nat → List Int}, Ind P H s → Ind P H s' → ∀ e, e < P.orders.length → s e ≠ [] → s' e ≠ [] := fun I J e he h => by
    obtain ⟨h1, h2, h3⟩ := I.mem e he h
    exact J.piv _ h1 e he h2 (by rw [h3]; decide)
  by_cases h : r d = []
  · by_cases h' : r' d = []
    · rw [h, h']
    · exact absurd h (pres B.toInd A.toInd d hd h')
  · have h' := pres A.toInd B.toInd d hd h
    obtain ⟨a1, a2, a3⟩ := A.mem d hd h
    obtain ⟨b1, b2, b3⟩ := B.mem d hd h'
    -- the quotient lies deeper; compare by representatives
    have hz := G.diff hd a2 b2 (by rw [a3, b3])
    have hzH := A.sub.mul _ _ (A.sub.inv _ a1) b1
    have hai := G.invV a2.1
    have e1 : rMul P (r d) (rMul P (rInv P (r d)) (r' d)) = r' d := by rw [← G.ass a2.1 hai b2.1, G.mul_inv a2.1, G.grp.el _ b2.1]
    by_cases hz0 : rMul P (rInv P (r d)) (r' d) = zeros P.orders.length
    · rw [hz0, G.grp.er _ a2.1] at e1; exact e1
    · exfalso
      obtain ⟨e, he, hT, h0⟩ := depth_ex hz.1 hz0
      have hde : d < e := by
        have : ¬ e < d + 1 := fun h => h0 (hz.2 e h)
        omega
      have hp := A.piv _ hzH e he hT h0
      have hp' := pres A.toInd B.toInd e he hp
      have h2 := (G.right (Nat.le_of_lt he) a2.1 hT).2 he
      rw [e1, A.red d e hde he h hp, B.red d e hde he h' hp', Int.zero_add] at h2
      have hb := hz.1.2 e he
      rw [Int.emod_eq_of_lt hb.1 hb.2] at h2
      exact h0 h2.symm

omit G in
theorem seqOf_congr {n : Nat} {r r' : Nat → List Int} (h : ∀ d, d < n → r d = r' d) : seqOf n r = seqOf n r' := by
  unfold seqOf
  induction n with
  | zero => rfl
  | succ n ih =>
    have e := h n (by omega)
    rw [List.range_succ, List.filterMap_append, List.filterMap_append, ih (fun d hd => h d (by omega))]
    simp only [List.filterMap_cons, List.filterMap_nil, e]

/-- both sides' sequences of one subgroup are one -/
theorem Grp.seq_one {H : List Int → Prop} {r r' : Nat → List Int} (A : Red P H r) (B : Red P H r') : seqOf P.orders.length r = seqOf P.orders.length r' :=
  seqOf_congr (G.red_one A B)

end

end Go.Proofs.Ytbfbpjkpoepmkaa
