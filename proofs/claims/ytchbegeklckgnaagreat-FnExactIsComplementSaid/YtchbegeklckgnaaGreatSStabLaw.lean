/-
  Plain: the smallest subgroup above one that is closed under the conjugation by given elements.
-/
import Derived.Test.YtchbegeklckgnaaGreatSCoreLaw
namespace Go.Proofs.YtchbegeklckgnaaGreat

def stP (P : Pr) (H : List Int → Prop) (B : List (List Int)) (x : List Int) : Prop := ∀ K, Sub P K → (∀ y, H y → K y) → (∀ b ∈ B, ∀ y, K y → K (rConj P y b)) → K x
/-- a list and its conjugates by the first elements of another one -/
def allC (P : Pr) (L B : List (List Int)) : Nat → List (List Int)
  | 0 => L
  | j + 1 => allC P L B j ++ conjL P L (gt B j)

theorem conjL_len (P : Pr) (L : List (List Int)) (X : List Int) : (conjL P L X).length = L.length := by unfold conjL; rw [List.length_map]

theorem allC_len (P : Pr) (L B : List (List Int)) (j : Nat) : (allC P L B j).length = L.length * (j + 1) := by
  induction j with
  | zero => simp [allC]
  | succ j ih => rw [allC, List.length_append, ih, conjL_len, Nat.mul_succ L.length (j + 1)]

theorem allC_mem {P : Pr} {L B : List (List Int)} {j : Nat} {x : List Int} : x ∈ allC P L B j ↔ x ∈ L ∨ ∃ k, k < j ∧ x ∈ conjL P L (gt B k) := by
  induction j with
  | zero => simp [allC]
  | succ j ih =>
    rw [allC, List.mem_append, ih]
    constructor
    · rintro ((h | ⟨k, hk, h⟩) | h)
      · exact Or.inl h
      · exact Or.inr ⟨k, by omega, h⟩
      · exact Or.inr ⟨j, by omega, h⟩
    · rintro (h | ⟨k, hk, h⟩)
      · exact Or.inl (Or.inl h)
      · rcases Nat.lt_succ_iff_lt_or_eq.1 hk with h1 | h1
        · exact Or.inl (Or.inr ⟨k, h1, h⟩)
        · exact Or.inr (h1 ▸ h)

def StSt (P : Pr) (H : List Int → Prop) (B : List (List Int)) (K : List Int → Prop) : Prop := Sub P K ∧ (∀ x, H x → K x) ∧ ∀ x, K x → stP P H B x

section
variable {P : Pr} (G : Grp P)
include G

theorem Grp.vecSub : Sub P (Vec P.orders) := ⟨fun _ h => h, G.oneV, fun _ _ a b => G.mulV a b, fun _ a => G.invV a⟩

theorem Grp.stP_sub {H : List Int → Prop} (S : Sub P H) {B : List (List Int)} (hB : ∀ b ∈ B, Vec P.orders b) : Sub P (stP P H B) :=
  ⟨fun _ h => h _ G.vecSub S.vec (fun b hb _ hy => G.conjV hy (hB b hb)), fun _ hK _ _ => hK.one,
    fun _ _ hx hy K hK hH hC => hK.mul _ _ (hx K hK hH hC) (hy K hK hH hC), fun _ hx K hK hH hC => hK.inv _ (hx K hK hH hC)⟩

theorem Grp.allC_vec {K : List Int → Prop} (S : Sub P K) {B : List (List Int)} (hB : ∀ b ∈ B, Vec P.orders b) (j : Nat) (hj : j ≤ B.length) : ∀ x ∈ allC P (cseq P K) B j, Vec P.orders x := by
  have hf := (G.seq_facts S).2.1
  intro x hx
  rcases allC_mem.1 hx with h | ⟨k, hk, h⟩
  · exact S.vec x (hf x h)
  · unfold conjL at h
    obtain ⟨y, hy, rfl⟩ := List.mem_map.1 h
    exact G.conjV (S.vec y (hf y hy)) (hB _ (gtMem (by omega)))

omit G in
theorem stP_conj {H : List Int → Prop} {B : List (List Int)} {b x : List Int} (hb : b ∈ B) (h : stP P H B x) : stP P H B (rConj P x b) := fun K hK hH hC => hC b hb _ (h K hK hH hC)

/-- one round -/
theorem Grp.st_round {H K : List Int → Prop} (S : Sub P H) {B : List (List Int)} (hB : ∀ b ∈ B, Vec P.orders b) (h : StSt P H B K) :
    StSt P H B (genP P (fun z => z ∈ allC P (cseq P K) B B.length)) ∧ (∀ x, K x → genP P (fun z => z ∈ allC P (cseq P K) B B.length) x) ∧
      ∀ b ∈ B, ∀ y, K y → genP P (fun z => z ∈ allC P (cseq P K) B B.length) (rConj P y b) := by
  obtain ⟨s1, s2, s3⟩ := h
  have hf := (G.seq_facts s1).2.1
  have S2 := G.genP_sub (Q := fun z => z ∈ allC P (cseq P K) B B.length) (G.allC_vec s1 hB _ (Nat.le_refl _))
  have hK : ∀ x, K x → genP P (fun z => z ∈ allC P (cseq P K) B B.length) x := fun x hx => by
    have h1 : genP P (fun z => z ∈ cseq P K) x := by rw [G.genP_cseq s1]; exact hx
    exact h1 _ S2 (fun z hz => genP_mem (allC_mem.2 (Or.inl hz)))
  refine ⟨⟨S2, fun x hx => hK x (s2 x hx), fun x hx => hx _ (G.stP_sub S hB) (fun z hz => ?_)⟩, hK, fun b hb y hy => ?_⟩
  · rcases allC_mem.1 hz with h | ⟨k, hk, h⟩
    · exact s3 z (hf z h)
    · unfold conjL at h
      obtain ⟨y, hy, rfl⟩ := List.mem_map.1 h
      exact stP_conj (gtMem hk) (s3 y (hf y hy))
  · have h1 : genP P (fun z => z ∈ cseq P K) y := by rw [G.genP_cseq s1]; exact hy
    obtain ⟨k, hk, rfl⟩ := mem_gt hb
    exact (h1 _ (G.pull_sub S2 (hB _ hb)) (fun z hz => ⟨s1.vec z (hf z hz), genP_mem (allC_mem.2 (Or.inr ⟨k, hk, List.mem_map.2 ⟨z, hz, rfl⟩⟩))⟩)).2

/-- a round that changes nothing is the last one; another one lengthens the sequence -/
theorem Grp.st_end {H K : List Int → Prop} (S : Sub P H) {B : List (List Int)} (hB : ∀ b ∈ B, Vec P.orders b) (h : StSt P H B K) :
    (cseq P K).length ≤ (cseq P (genP P (fun z => z ∈ allC P (cseq P K) B B.length))).length ∧
    ((cseq P (genP P (fun z => z ∈ allC P (cseq P K) B B.length))).length = (cseq P K).length → genP P (fun z => z ∈ allC P (cseq P K) B B.length) = stP P H B) := by
  obtain ⟨r1, r2, r3⟩ := G.st_round S hB h
  have hl := G.len_le h.1 r1.1 r2
  refine ⟨hl.1, fun he => ?_⟩
  have hb := hl.2 he.symm
  exact funext fun x => propext ⟨r1.2.2 x, fun hx => hx _ r1.1 r1.2.1 (fun b hbm y hy => r3 b hbm y (hb y hy))⟩

/-- the closure by the generators is no longer exactly if the subgroup is normal -/
theorem Grp.st_norm {H : List Int → Prop} (S : Sub P H) : ((cseq P (stP P H (gensOf P.orders.length))).length = (cseq P H).length) ↔ NormG P H (cseq P H) := by
  have hB := gensOf_vec G.v
  have S2 := G.stP_sub S hB
  have hle : ∀ x, H x → stP P H (gensOf P.orders.length) x := fun x hx K _ hH _ => hH x hx
  constructor
  · intro he
    have hb := (G.len_le S S2 hle).2 he.symm
    refine (G.norm_iff S).2 (G.norm_of_gens S (fun j hj x hx => hb _ (stP_conj ?_ (hle x hx))))
    rw [← gensOf_at _ _ hj]; exact gtMem (by rw [gensOf_len]; exact hj)
  · intro hN
    have hN := (G.norm_iff S).1 hN
    have : stP P H (gensOf P.orders.length) = H := funext fun x => propext ⟨fun h => h H S (fun _ h => h) (fun b hb y hy => hN y hy b (hB b hb)), hle x⟩
    rw [this]

end

end Go.Proofs.YtchbegeklckgnaaGreat
