/-
  Plain: the greatest normal subgroup within a subgroup.
-/
import Derived.Test.YtigbpdaomgagiaaGreatK6
import Derived.Test.YtigbpdaomgagiaaGreatSNormW
namespace Go.Proofs.YtigbpdaomgagiaaGreat

/-- the elements all of whose conjugates lie in H -/
def coreP (P : Pr) (H : List Int → Prop) (x : List Int) : Prop := Vec P.orders x ∧ ∀ g, Vec P.orders g → H (rConj P x g)
def NormP (P : Pr) (K : List Int → Prop) : Prop := ∀ x, K x → ∀ g, Vec P.orders g → K (rConj P x g)
/-- the conjugates of the elements of a subgroup -/
def cjS (P : Pr) (K : List Int → Prop) (g x : List Int) : Prop := ∃ y, K y ∧ x = rConj P y g

section
variable {P : Pr} (G : Grp P)
include G

theorem Grp.conj_zeros {g : List Int} (hg : Vec P.orders g) : rConj P (zeros P.orders.length) g = zeros P.orders.length := by
  unfold rConj
  rw [G.grp.el _ hg, G.inv_mul hg]

theorem Grp.conj_inv {x g : List Int} (hx : Vec P.orders x) (hg : Vec P.orders g) : rConj P (rInv P x) g = rInv P (rConj P x g) := by
  refine G.inv_of (G.conjV hx hg) (G.conjV (G.invV hx) hg) ?_
  rw [← G.conj_hom hx (G.invV hx) hg, G.mul_inv hx, G.conj_zeros hg]

/-- the elements whose conjugates by g lie in a subgroup -/
theorem Grp.pull_sub {H : List Int → Prop} (S : Sub P H) {g : List Int} (hg : Vec P.orders g) : Sub P (fun y => Vec P.orders y ∧ H (rConj P y g)) :=
  ⟨fun _ h => h.1, ⟨G.oneV, by rw [G.conj_zeros hg]; exact S.one⟩, fun x y hx hy => ⟨G.mulV hx.1 hy.1, by rw [G.conj_hom hx.1 hy.1 hg]; exact S.mul _ _ hx.2 hy.2⟩,
    fun x hx => ⟨G.invV hx.1, by rw [G.conj_inv hx.1 hg]; exact S.inv _ hx.2⟩⟩

theorem Grp.core_sub {H : List Int → Prop} (S : Sub P H) : Sub P (coreP P H) :=
  ⟨fun _ h => h.1, ⟨G.oneV, fun g hg => by rw [G.conj_zeros hg]; exact S.one⟩, fun x y hx hy => ⟨G.mulV hx.1 hy.1, fun g hg => by rw [G.conj_hom hx.1 hy.1 hg]; exact S.mul _ _ (hx.2 g hg) (hy.2 g hg)⟩,
    fun x hx => ⟨G.invV hx.1, fun g hg => by rw [G.conj_inv hx.1 hg]; exact S.inv _ (hx.2 g hg)⟩⟩

theorem Grp.core_le {H : List Int → Prop} (x : List Int) (h : coreP P H x) : H x := by
  have := h.2 _ G.oneV
  rwa [G.conj_one h.1] at this

theorem Grp.core_norm {H : List Int → Prop} : NormP P (coreP P H) := fun x hx g hg =>
  ⟨G.conjV hx.1 hg, fun k hk => by rw [G.conj_mul hx.1 hg hk]; exact hx.2 _ (G.mulV hg hk)⟩

theorem Grp.cj_sub {K : List Int → Prop} (S : Sub P K) {g : List Int} (hg : Vec P.orders g) : Sub P (cjS P K g) := by
  refine ⟨?_, ⟨_, S.one, (G.conj_zeros hg).symm⟩, ?_, ?_⟩
  · rintro x ⟨y, hy, rfl⟩; exact G.conjV (S.vec y hy) hg
  · rintro x x' ⟨y, hy, rfl⟩ ⟨y', hy', rfl⟩
    exact ⟨_, S.mul _ _ hy hy', (G.conj_hom (S.vec y hy) (S.vec y' hy') hg).symm⟩
  · rintro x ⟨y, hy, rfl⟩
    exact ⟨_, S.inv _ hy, (G.conj_inv (S.vec y hy) hg).symm⟩

/-- what the conjugates of the sequence generate -/
theorem Grp.genP_conjL {K : List Int → Prop} (S : Sub P K) {g : List Int} (hg : Vec P.orders g) : genP P (fun z => z ∈ conjL P (cseq P K) g) = cjS P K g := by
  have hf := (G.seq_facts S).2.1
  have hV : ∀ z, z ∈ conjL P (cseq P K) g → Vec P.orders z := fun z hz => by
    unfold conjL at hz
    obtain ⟨y, hy, rfl⟩ := List.mem_map.1 hz
    exact G.conjV (S.vec y (hf y hy)) hg
  have S2 := G.genP_sub (Q := fun z => z ∈ conjL P (cseq P K) g) hV
  refine funext fun x => propext ⟨fun h => h _ (G.cj_sub S hg) (fun z hz => ?_), ?_⟩
  · unfold conjL at hz
    obtain ⟨y, hy, rfl⟩ := List.mem_map.1 hz
    exact ⟨y, hf y hy, rfl⟩
  · rintro ⟨y, hy, rfl⟩
    have h1 : genP P (fun z => z ∈ cseq P K) y := by rw [G.genP_cseq S]; exact hy
    exact (h1 _ (G.pull_sub S2 hg) (fun z hz => ⟨S.vec z (hf z hz), genP_mem (List.mem_map.2 ⟨z, hz, rfl⟩)⟩)).2

omit G in
theorem cj_mono {K K' : List Int → Prop} {g x : List Int} (h : ∀ y, K y → K' y) (hx : cjS P K g x) : cjS P K' g x := by
  obtain ⟨y, hy, rfl⟩ := hx; exact ⟨y, h y hy, rfl⟩

/-- a normal subgroup within K lies within the conjugates of K -/
theorem Grp.norm_cj {N K : List Int → Prop} (hN : NormP P N) (hv : ∀ x, N x → Vec P.orders x) (h : ∀ x, N x → K x) {g : List Int} (hg : Vec P.orders g) (x : List Int) (hx : N x) : cjS P K g x := by
  have hi := G.invV hg
  refine ⟨rConj P x (rInv P g), h _ (hN x hx _ hi), ?_⟩
  rw [G.conj_mul (hv x hx) hi hg, G.inv_mul hg, G.conj_one (hv x hx)]

/-- the generators suffice -/
theorem Grp.norm_of_gens {K : List Int → Prop} (S : Sub P K) (h : ∀ j, j < P.orders.length → ∀ x, K x → K (rConj P x (unitV P.orders.length j))) : NormP P K := by
  have key : ∀ g, Vec P.orders g → ∀ x, K x → K (rConj P x g) := fun g hg => by
    refine G.gen_ind (fun g => ∀ x, K x → K (rConj P x g)) (fun x hx => ?_) (fun y j hy ih hj x hx => ?_) hg
    · rw [G.conj_one (S.vec x hx)]; exact hx
    · have hu := unitV_vec G.v j
      rw [← G.conj_mul (S.vec x hx) hy hu]
      exact h j hj _ (ih x hx)
  exact fun x hx g hg => key g hg x hx

omit G in
theorem gensOf_at (n j : Nat) (hj : j < n) : gt (gensOf n) j = unitV n j := by
  unfold gensOf
  have h : j < (List.range n).length := by rw [List.length_range]; exact hj
  rw [gt_map _ _ _ h]
  simp [gt, hj]
omit G in
theorem gensOf_len (n : Nat) : (gensOf n).length = n := by unfold gensOf; simp

theorem Grp.norm_iff {K : List Int → Prop} (S : Sub P K) : NormG P K (cseq P K) ↔ NormP P K := by
  have hf := (G.seq_facts S).2.1
  constructor
  · intro h
    refine G.norm_of_gens S (fun j hj x hx => ?_)
    have hu := unitV_vec G.v j
    have h1 : genP P (fun z => z ∈ cseq P K) x := by rw [G.genP_cseq S]; exact hx
    have hm : unitV P.orders.length j ∈ gensOf P.orders.length := by rw [← gensOf_at _ _ hj]; exact gtMem (by rw [gensOf_len]; exact hj)
    exact (h1 _ (G.pull_sub S hu) (fun z hz => ⟨S.vec z (hf z hz), h _ hm z hz⟩)).2
  · intro h g hg x hx
    exact h x (hf x hx) g (gensOf_vec G.v g hg)

/-- a subgroup that lies within its conjugates by the generators is normal -/
theorem Grp.norm_of_cj {K : List Int → Prop} (S : Sub P K) (h : ∀ j, j < P.orders.length → ∀ x, K x → cjS P K (unitV P.orders.length j) x) : NormP P K := by
  refine G.norm_of_gens S (fun j hj => ?_)
  obtain ⟨g, hg⟩ : ∃ g, g = unitV P.orders.length j := ⟨_, rfl⟩
  have hV : Vec P.orders g := by rw [hg]; exact unitV_vec G.v j
  rw [← hg]
  have hi := G.invV hV
  have hA : ∀ x, K x → K (rConj P x (rInv P g)) := fun x hx => by
    obtain ⟨y, hy, he⟩ := h j hj x hx
    rw [← hg] at he
    rw [he, G.conj_back (S.vec y hy) hV]; exact hy
  have hpw : ∀ k x, K x → K (rConj P x (pw P (rInv P g) k)) := fun k => by
    induction k with
    | zero => intro x hx; rw [pw_zero, G.conj_one (S.vec x hx)]; exact hx
    | succ k ih =>
      intro x hx
      rw [pw_succ, ← G.conj_mul (S.vec x hx) (G.pw_vec hi k) hi]
      exact hA _ (ih x hx)
  obtain ⟨k, hk⟩ := G.inv_pw hi
  rw [G.inv_inv hV] at hk
  intro x hx
  rw [hk]; exact hpw k x hx

/-- a subgroup within another one has no longer sequence; with as long a one it is the same -/
theorem Grp.len_le {K' K : List Int → Prop} (S' : Sub P K') (S : Sub P K) (h : ∀ x, K' x → K x) : (cseq P K').length ≤ (cseq P K).length ∧ ((cseq P K').length = (cseq P K).length → ∀ x, K x → K' x) := by
  obtain ⟨r', hR', he'⟩ := G.cseq_spec S'
  obtain ⟨r, hR, he⟩ := G.cseq_spec S
  have hl' : (cseq P K').length = (depsOf P.orders.length r').length := by rw [he', seqOf_map, List.length_map]
  have hl : (cseq P K).length = (depsOf P.orders.length r).length := by rw [he, seqOf_map, List.length_map]
  have himp : ∀ d, d < P.orders.length → r' d ≠ [] → r d ≠ [] := fun d hd hne => by
    obtain ⟨m1, m2, m3⟩ := hR'.mem d hd hne
    exact hR.piv _ (h _ m1) d hd m2 (by rw [m3]; decide)
  have hff : (depsOf P.orders.length r').length = ((depsOf P.orders.length r).filter (fun d => decide (r' d ≠ []))).length := by
    unfold depsOf
    rw [List.filter_filter]
    congr 1
    refine List.filter_congr (fun d hd => ?_)
    have hd := List.mem_range.1 hd
    by_cases h1 : r' d = []
    · simp [h1]
    · simp [h1, himp d hd h1]
  rw [hl', hl, hff]
  refine ⟨List.length_filter_le _ _, fun heq x hx => ?_⟩
  have hall := List.length_filter_eq_length_iff.1 heq
  have I' : Ind P K (r') := ⟨S, fun d hd hne => ⟨h _ (hR'.mem d hd hne).1, (hR'.mem d hd hne).2⟩, fun y hy d hd hT h0 => by
    have h1 := hR.piv y hy d hd hT h0
    have h2 := hall d (depsOf_mem.2 ⟨hd, h1⟩)
    exact of_decide_eq_true h2⟩
  exact G.ind_same hR'.toInd I' h x hx

end

end Go.Proofs.YtigbpdaomgagiaaGreat
