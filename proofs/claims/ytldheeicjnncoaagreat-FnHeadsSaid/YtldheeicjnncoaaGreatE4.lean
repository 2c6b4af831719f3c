/-
  Plain: the canonical sequence of a subgroup is one: a table that is reduced is determined by the subgroup; so are representatives of cosets.
  Plain: what holds while a table by depths grows: each element that was looked at is neutral, waits in the queue, or is led deeper by the table.
  Plain: depths; every subgroup has a canonical sequence, and every element a representative.
  Plain: the steps of sifting on both sides.
  Residues: impl.residue.
  impl.depthOf, impl.commutator, impl.inverseMod.
  Numbers of elements: impl.numberOf, spec.l10Number, impl.elementAt, spec.l10At, spec.l10One.
  impl.allElements, impl.generators.
  impl.pivots.
  Words of memory that laws and functions share: places in rows, rows in blocks of their own, a presentation in blocks of its own, a struct of three cells, what a law keeps in view.
  Queues of rows: a slice at any place of an array of the call's own, whose rows lie in blocks elsewhere; tables of rows, nil where nothing stands.
  A sequence that grows (impl.sequence): its struct, its table by depths.
  impl.newSequence, (*impl.sequence).sift.
  Plain: the steps of (*impl.sequence).add on the invariant of SubAdd; how often it can go round.
  impl.representative.
  Plain: the canonical sequence, from the deepest place up.
-/
import Derived.Test.YtldheeicjnncoaaGreatE1
import Derived.Test.YtldheeicjnncoaaGreatE2
import Derived.Test.YtldheeicjnncoaaGreatE3
import Derived.ArgAppend
namespace Go.Proofs.YtldheeicjnncoaaGreat

/-- a vector other than the neutral one has a depth -/
theorem depth_ex {P : Pr} {x : List Int} (hx : Vec P.orders x) (h : x ≠ zeros P.orders.length) : ∃ d, d < P.orders.length ∧ T P d x ∧ gt x d ≠ 0 := by
  have key : ∀ f d, d + f = P.orders.length → T P d x → ∃ d, d < P.orders.length ∧ T P d x ∧ gt x d ≠ 0 := by
    intro f
    induction f with
    | zero =>
      intro d hd hT
      exfalso; apply h
      have : d = P.orders.length := by omega
      subst this
      exact ext_gt (by rw [hx.1]; simp [zeros]) (fun k hk => by
        rw [hx.1] at hk
        rw [hT.2 k hk]; exact (gt_replicate _ _).symm)
    | succ f ih =>
      intro d hd hT
      by_cases h0 : gt x d = 0
      · exact ih (d + 1) (by omega) (hT.up h0)
      · exact ⟨d, by omega, hT, h0⟩
  exact key P.orders.length 0 (by omega) (T_zero.2 hx)

/-- a reduced table that induces a subgroup -/
structure Red (P : Pr) (H : List Int → Prop) (r : Nat → List Int) : Prop extends Ind P H r where
  red : ∀ d e, d < e → e < P.orders.length → r d ≠ [] → r e ≠ [] → gt (r d) e = 0

/-- a table as a sequence -/
def seqOf (n : Nat) (r : Nat → List Int) : List (List Int) := (List.range n).filterMap (fun d => if r d = [] then none else some (r d))

section
variable {P : Pr} (G : Grp P)
include G

/-- y is the representative of x for a subgroup with the table r -/
def Rep (P : Pr) (H : List Int → Prop) (r : Nat → List Int) (x y : List Int) : Prop := Vec P.orders y ∧ H (rMul P (rInv P x) y) ∧ ∀ e, e < P.orders.length → r e ≠ [] → gt y e = 0

theorem Grp.coset_one {H : List Int → Prop} {b : Nat → List Int} (I : Ind P H b) {x y : List Int} (hx : Vec P.orders x) (hy : Vec P.orders y) (h : H (rMul P (rInv P x) y))
    (hx0 : ∀ e, e < P.orders.length → b e ≠ [] → gt x e = 0) (hy0 : ∀ e, e < P.orders.length → b e ≠ [] → gt y e = 0) : x = y := by
  have hxi := G.invV hx
  have e1 : rMul P x (rMul P (rInv P x) y) = y := by rw [← G.ass hx hxi hy, G.mul_inv hx, G.grp.el _ hy]
  by_cases hz : rMul P (rInv P x) y = zeros P.orders.length
  · rw [hz, G.grp.er _ hx] at e1; exact e1
  · exfalso
    have hzv := I.sub.vec _ h
    obtain ⟨e, he, hT, h0⟩ := depth_ex hzv hz
    have hp := I.piv _ h e he hT h0
    have h2 := (G.right (Nat.le_of_lt he) hx hT).2 he
    rw [e1, hx0 e he hp, hy0 e he hp, Int.zero_add] at h2
    have hb := hzv.2 e he
    rw [Int.emod_eq_of_lt hb.1 hb.2] at h2
    exact h0 h2.symm

theorem Grp.rep_one {H : List Int → Prop} {b : Nat → List Int} (I : Ind P H b) {x y y' : List Int} (hx : Vec P.orders x) (h : Rep P H b x y) (h' : Rep P H b x y') : y = y' := by
  refine G.coset_one I h.1 h'.1 ?_ h.2.2 h'.2.2
  have hi := G.invV hx
  have hyi := G.invV h.1
  have e : rMul P (rInv P y) y' = rMul P (rInv P (rMul P (rInv P x) y)) (rMul P (rInv P x) y') := by
    rw [G.inv_mulR hi h.1, G.inv_inv hx, G.ass hyi hx (G.mulV hi h'.1), ← G.ass hx hi h'.1, G.mul_inv hx, G.grp.el _ h'.1]
  rw [e]; exact I.sub.mul _ _ (I.sub.inv _ h.2.1) h'.2.1

theorem Grp.red_one {H : List Int → Prop} {r r' : Nat → List Int} (A : Red P H r) (B : Red P H r') : ∀ d, d < P.orders.length → r d = r' d := by
  intro d hd
  have pres : ∀ {s s' : Nat → List Int}, Ind P H s → Ind P H s' → ∀ e, e < P.orders.length → s e ≠ [] → s' e ≠ [] := fun I J e he h => by
    obtain ⟨h1, h2, h3⟩ := I.mem e he h
    exact J.piv _ h1 e he h2 (by rw [h3]; decide)
  by_cases h : r d = []
  · by_cases h' : r' d = []
    · rw [h, h']
    · exact absurd h (pres B.toInd A.toInd d hd h')
  · have h' := pres A.toInd B.toInd d hd h
    obtain ⟨a1, a2, a3⟩ := A.mem d hd h
    obtain ⟨b1, b2, b3⟩ := B.mem d hd h'
    -- the quotient lies deeper; compare by representatives
    have hz := G.diff hd a2 b2 (by rw [a3, b3])
    have hzH := A.sub.mul _ _ (A.sub.inv _ a1) b1
    have hai := G.invV a2.1
    have e1 : rMul P (r d) (rMul P (rInv P (r d)) (r' d)) = r' d := by rw [← G.ass a2.1 hai b2.1, G.mul_inv a2.1, G.grp.el _ b2.1]
    by_cases hz0 : rMul P (rInv P (r d)) (r' d) = zeros P.orders.length
    · rw [hz0, G.grp.er _ a2.1] at e1; exact e1
    · exfalso
      obtain ⟨e, he, hT, h0⟩ := depth_ex hz.1 hz0
      have hde : d < e := by
        have : ¬ e < d + 1 := fun h => h0 (hz.2 e h)
        omega
      have hp := A.piv _ hzH e he hT h0
      have hp' := pres A.toInd B.toInd e he hp
      have h2 := (G.right (Nat.le_of_lt he) a2.1 hT).2 he
      rw [e1, A.red d e hde he h hp, B.red d e hde he h' hp', Int.zero_add] at h2
      have hb := hz.1.2 e he
      rw [Int.emod_eq_of_lt hb.1 hb.2] at h2
      exact h0 h2.symm

omit G in
theorem seqOf_congr {n : Nat} {r r' : Nat → List Int} (h : ∀ d, d < n → r d = r' d) : seqOf n r = seqOf n r' := by
  unfold seqOf
  induction n with
  | zero => rfl
  | succ n ih =>
    have e := h n (by omega)
    rw [List.range_succ, List.filterMap_append, List.filterMap_append, ih (fun d hd => h d (by omega))]
    simp only [List.filterMap_cons, List.filterMap_nil, e]

/-- both sides' sequences of one subgroup are one -/
theorem Grp.seq_one {H : List Int → Prop} {r r' : Nat → List Int} (A : Red P H r) (B : Red P H r') : seqOf P.orders.length r = seqOf P.orders.length r' :=
  seqOf_congr (G.red_one A B)

end

end Go.Proofs.YtldheeicjnncoaaGreat
namespace Go.Proofs.YtldheeicjnncoaaGreat

/-- the subgroup that a set of elements generates -/
def genP (P : Pr) (Q : List Int → Prop) (x : List Int) : Prop := ∀ H, Sub P H → (∀ y, Q y → H y) → H x

structure AddInv (P : Pr) (Q : List Int → Prop) (b : Nat → List Int) (q : List (List Int)) (R : List Int → Prop) : Prop where
  tab : ∀ d, d < P.orders.length → b d ≠ [] → R (b d) ∧ T P d (b d) ∧ gt (b d) d = 1
  vec : ∀ x, R x → Vec P.orders x
  que : ∀ x ∈ q, R x
  src : ∀ x, Q x → R x
  step : ∀ x, R x → x = zeros P.orders.length ∨ x ∈ q ∨ ∃ d, d < P.orders.length ∧ T P d x ∧ gt x d ≠ 0 ∧ b d ≠ [] ∧ ∃ x', R x' ∧ T P (d + 1) x' ∧ ∀ K, Sub P K → K (b d) → K x' → K x
  pow : ∀ d, d < P.orders.length → b d ≠ [] → R (pw P (b d) (gt P.orders d).toNat)
  com : ∀ d e, d < e → e < P.orders.length → b d ≠ [] → b e ≠ [] → ∃ c, R c ∧ T P (d + 1) c ∧ ∀ K, Sub P K → K (b e) → K c → K (rConj P (b e) (b d))
  gen : ∀ x, R x → genP P Q x

section
variable {P : Pr} (G : Grp P)
include G

theorem Grp.genP_sub {Q : List Int → Prop} (hQ : ∀ y, Q y → Vec P.orders y) : Sub P (genP P Q) :=
  ⟨fun _ h => h _ G.sub_all hQ, fun _ S _ => S.one, fun _ _ h k _ S hH => S.mul _ _ (h _ S hH) (k _ S hH), fun _ h _ S hH => S.inv _ (h _ S hH)⟩
omit G in
theorem genP_mem {Q : List Int → Prop} {y : List Int} (hy : Q y) : genP P Q y := fun _ _ hH => hH y hy
omit G in
theorem genP_le {Q : List Int → Prop} {H : List Int → Prop} (S : Sub P H) (h : ∀ y, Q y → H y) {x : List Int} (hx : genP P Q x) : H x := hx _ S h

theorem Grp.addInv_start {H : List Int → Prop} {b : Nat → List Int} (I : Ind P H b) {list : List (List Int)} (hl : ∀ x ∈ list, Vec P.orders x) :
    AddInv P (fun x => H x ∨ x ∈ list) b list (fun x => H x ∨ x ∈ list) := by
  have S := I.sub
  refine ⟨fun d hd hb => ?_, ?_, fun x hx => .inr hx, fun x hx => hx, ?_, fun d hd hb => .inl (S.pw (I.mem d hd hb).1 _), fun d e hde he hbd hbe => ?_, fun x hx => genP_mem hx⟩
  · obtain ⟨h1, h2, h3⟩ := I.mem d hd hb
    exact ⟨.inl h1, h2, h3⟩
  · rintro x (h | h)
    · exact S.vec x h
    · exact hl x h
  · rintro x (h | h)
    · by_cases h0 : x = zeros P.orders.length
      · exact .inl h0
      · obtain ⟨d, hd, hT, hx0⟩ := depth_ex (S.vec x h) h0
        have hb := I.piv x h d hd hT hx0
        obtain ⟨m1, m2, m3⟩ := I.mem d hd hb
        have ho := G.v.ord7 d hd
        have hxd := hT.1.2 d hd
        refine .inr (.inr ⟨d, hd, hT, hx0, hb, rMul P (pw P (b d) (gt P.orders d - gt x d).toNat) x, .inl (S.mul _ _ (S.pw m1 _) h), ?_, fun K SK h1 h2 => ?_⟩)
        · refine (G.T_mul (Nat.le_of_lt hd) (G.pw_T (Nat.le_of_lt hd) m2 _) hT).up ?_
          rw [(G.right (Nat.le_of_lt hd) (G.pw_vec m2.1 _) hT).2 hd, G.pw_at hd m2, m3, Int.mul_one, Int.emod_add_emod, show (((gt P.orders d - gt x d).toNat : Nat) : Int) + gt x d = gt P.orders d by omega, Int.emod_self]
        · have h3 := SK.mul _ _ (SK.inv _ (SK.pw h1 (gt P.orders d - gt x d).toNat)) h2
          rwa [← G.ass (G.invV (G.pw_vec m2.1 _)) (G.pw_vec m2.1 _) hT.1, G.inv_mul (G.pw_vec m2.1 _), G.grp.el _ hT.1] at h3
    · exact .inr (.inl h)
  · obtain ⟨m1, m2, m3⟩ := I.mem d (by omega) hbd
    obtain ⟨k1, k2, k3⟩ := I.mem e he hbe
    have hk2 := k2.down (show d + 1 ≤ e by omega)
    refine ⟨_, .inl (S.mul _ _ (S.inv _ (S.mul _ _ m1 k1)) (S.mul _ _ k1 m1)), (G.comm_deep (by omega) m2 hk2).2, fun K SK h1 h2 => ?_⟩
    rw [G.conj_of_comm k2.1 m2.1]
    exact SK.mul _ _ h1 h2

omit G in
/-- one step of sifting, by a power from the left or from the right -/
theorem addInv_sift {Q : List Int → Prop} {b : Nat → List Int} {q : List (List Int)} {R : List Int → Prop} {y y' : List Int} (A : AddInv P Q b (y :: q) R) {d : Nat} (hd : d < P.orders.length) (hT : T P d y) (h0 : gt y d ≠ 0) (hb : b d ≠ [])
    (hy' : T P (d + 1) y') (hK : ∀ K, Sub P K → K (b d) → K y' → K y) (hgen : ∀ K, Sub P K → K (b d) → K y → K y') : AddInv P Q b (y' :: q) (fun x => R x ∨ x = y') := by
  refine ⟨fun e he hbe => ⟨.inl (A.tab e he hbe).1, (A.tab e he hbe).2⟩, ?_, ?_, fun x hx => .inl (A.src x hx), ?_, fun e he hbe => .inl (A.pow e he hbe), fun d e hde he h1 h2 => ?_, ?_⟩
  · rintro x (h | h)
    · exact A.vec x h
    · rw [h]; exact hy'.1
  · intro x hx
    rcases List.mem_cons.1 hx with h | h
    · exact .inr h
    · exact .inl (A.que x (List.mem_cons_of_mem _ h))
  · rintro x (h | h)
    · rcases A.step x h with h1 | h1 | ⟨e, h2, h3, h4, h5, x', h6, h7, h8⟩
      · exact .inl h1
      · rcases List.mem_cons.1 h1 with h2 | h2
        · rw [h2]; exact .inr (.inr ⟨d, hd, hT, h0, hb, y', .inr rfl, hy', hK⟩)
        · exact .inr (.inl (List.mem_cons_of_mem _ h2))
      · exact .inr (.inr ⟨e, h2, h3, h4, h5, x', .inl h6, h7, h8⟩)
    · exact .inr (.inl (by rw [h]; exact List.mem_cons_self))
  · obtain ⟨c, c1, c2⟩ := A.com d e hde he h1 h2
    exact ⟨c, .inl c1, c2⟩
  · rintro x (h | h)
    · exact A.gen x h
    · rw [h]
      intro K S hQ
      exact hgen K S (A.gen _ (A.tab d hd hb).1 K S hQ) (A.gen _ (A.que y List.mem_cons_self) K S hQ)

omit G in
/-- the neutral element needs no waiting -/
theorem addInv_drop {Q : List Int → Prop} {b : Nat → List Int} {q : List (List Int)} {R : List Int → Prop} {y : List Int} (A : AddInv P Q b (y :: q) R) (hy : y = zeros P.orders.length) : AddInv P Q b q R := by
  refine ⟨A.tab, A.vec, fun x hx => A.que x (List.mem_cons_of_mem _ hx), A.src, fun x hx => ?_, A.pow, A.com, A.gen⟩
  rcases A.step x hx with h1 | h1 | h1
  · exact .inl h1
  · rcases List.mem_cons.1 h1 with h2 | h2
    · exact .inl (h2.trans hy)
    · exact .inr (.inl h2)
  · exact .inr (.inr h1)

/-- a new entry of the table; L: the commutators that are put to the queue -/
theorem Grp.addInv_insert {Q : List Int → Prop} {b b' : Nat → List Int} {q q' : List (List Int)} {R : List Int → Prop} {y z : List Int} (A : AddInv P Q b (y :: q) R) {d : Nat} (hd : d < P.orders.length) (hT : T P d y) (hb : b d = [])
    (hz : T P d z) (hz1 : gt z d = 1) (hgz : ∀ K, Sub P K → K y → K z) (hb' : ∀ e, e < P.orders.length → b' e = if e = d then z else b e)
    (hq1 : ∀ x ∈ q', x ∈ q ∨ x = y ∨ x = z ∨ x = pw P z (gt P.orders d).toNat ∨ ∃ e, e < P.orders.length ∧ b e ≠ [] ∧ (x = rMul P (rInv P (rMul P z (b e))) (rMul P (b e) z) ∨ x = rMul P (rInv P (rMul P (b e) z)) (rMul P z (b e))))
    (hq2 : ∀ x, x ∈ q ∨ x = y ∨ x = pw P z (gt P.orders d).toNat → x ∈ q')
    (hq3 : ∀ e, e < P.orders.length → b e ≠ [] → rMul P (rInv P (rMul P z (b e))) (rMul P (b e) z) ∈ q' ∨ rMul P (rInv P (rMul P (b e) z)) (rMul P z (b e)) ∈ q') :
    AddInv P Q b' q' (fun x => R x ∨ x = z ∨ x ∈ q') := by
  have ho := G.v.ord7 d hd
  have hzV := hz.1
  have hold : ∀ e, e < P.orders.length → b e ≠ [] → b' e = b e := fun e he hbe => by
    rw [hb' e he, if_neg (fun h => hbe (by rw [h]; exact hb))]
  have hcase : ∀ e, e < P.orders.length → b' e ≠ [] → (e = d ∧ b' e = z) ∨ (e ≠ d ∧ b e ≠ [] ∧ b' e = b e) := fun e he hbe => by
    by_cases h : e = d
    · exact .inl ⟨h, by rw [hb' e he, if_pos h]⟩
    · have h2 : b' e = b e := by rw [hb' e he, if_neg h]
      exact .inr ⟨h, by rw [← h2]; exact hbe, h2⟩
  have hbd' : b' d = z := by rw [hb' d hd, if_pos rfl]
  have hzne : z ≠ [] := by
    intro h
    have := hzV.1
    rw [h] at this; simp at this; omega
  have hqv : ∀ x ∈ q', Vec P.orders x ∧ genP P Q x := by
    have hgy := A.gen y (A.que y List.mem_cons_self)
    have hgz' : genP P Q z := fun K S hQ => hgz K S (hgy K S hQ)
    intro x hx
    rcases hq1 x hx with h | h | h | h | ⟨e, he, hbe, h | h⟩
    · have := A.que x (List.mem_cons_of_mem _ h); exact ⟨A.vec x this, A.gen x this⟩
    · rw [h]; exact ⟨hT.1, hgy⟩
    · rw [h]; exact ⟨hzV, hgz'⟩
    · rw [h]; exact ⟨G.pw_vec hzV _, fun K S hQ => S.pw (hgz' K S hQ) _⟩
    · have hbV := (A.tab e he hbe).2.1.1
      have hgb := A.gen _ (A.tab e he hbe).1
      rw [h]
      exact ⟨G.mulV (G.invV (G.mulV hzV hbV)) (G.mulV hbV hzV), fun K S hQ => S.mul _ _ (S.inv _ (S.mul _ _ (hgz' K S hQ) (hgb K S hQ))) (S.mul _ _ (hgb K S hQ) (hgz' K S hQ))⟩
    · have hbV := (A.tab e he hbe).2.1.1
      have hgb := A.gen _ (A.tab e he hbe).1
      rw [h]
      exact ⟨G.mulV (G.invV (G.mulV hbV hzV)) (G.mulV hzV hbV), fun K S hQ => S.mul _ _ (S.inv _ (S.mul _ _ (hgb K S hQ) (hgz' K S hQ))) (S.mul _ _ (hgz' K S hQ) (hgb K S hQ))⟩
  have hpz : T P (d + 1) (pw P z (gt P.orders d).toNat) := G.pw_order hd hz
  refine ⟨fun e he hbe => ?_, ?_, fun x hx => .inr (.inr hx), fun x hx => .inl (A.src x hx), ?_, fun e he hbe => ?_, fun e1 e2 hlt he2 h1 h2 => ?_, ?_⟩
  · rcases hcase e he hbe with ⟨h1, h2⟩ | ⟨h1, h2, h3⟩
    · subst h1; rw [h2]; exact ⟨.inr (.inl rfl), hz, hz1⟩
    · rw [h3]; exact ⟨.inl (A.tab e he h2).1, (A.tab e he h2).2⟩
  · rintro x (h | h | h)
    · exact A.vec x h
    · rw [h]; exact hzV
    · exact (hqv x h).1
  · rintro x (h | h | h)
    · rcases A.step x h with h1 | h1 | ⟨e, h2, h3, h4, h5, x', h6, h7, h8⟩
      · exact .inl h1
      · rcases List.mem_cons.1 h1 with h2 | h2
        · exact .inr (.inl (hq2 x (.inr (.inl h2))))
        · exact .inr (.inl (hq2 x (.inl h2)))
      · refine .inr (.inr ⟨e, h2, h3, h4, by rw [hold e h2 h5]; exact h5, x', .inl h6, h7, ?_⟩)
        rw [hold e h2 h5]; exact h8
    · -- the new entry itself: its power with the order, times its inverse
      subst h
      refine .inr (.inr ⟨d, hd, hz, by rw [hz1]; decide, by rw [hbd']; exact hzne, pw P x (gt P.orders d).toNat, .inr (.inr (hq2 _ (.inr (.inr rfl)))), hpz, fun K _ hk _ => by rw [hbd'] at hk; exact hk⟩)
    · exact .inr (.inl h)
  · rcases hcase e he hbe with ⟨h1, h2⟩ | ⟨h1, h2, h3⟩
    · subst h1; rw [h2]; exact .inr (.inr (hq2 _ (.inr (.inr rfl))))
    · rw [h3]; exact .inl (A.pow e he h2)
  · rcases hcase e1 (by omega) h1 with ⟨a1, a2⟩ | ⟨a1, a2, a3⟩
    · rcases hcase e2 he2 h2 with ⟨b1, b2⟩ | ⟨b1, b2, b3⟩
      · omega
      · subst a1
        rw [a2, b3]
        obtain ⟨k1, k2, k3⟩ := A.tab e2 he2 b2
        have hk2 := k2.down (show e1 + 1 ≤ e2 by omega)
        have hcd := G.comm_deep hd hz hk2
        rcases hq3 e2 he2 b2 with hm | hm
        · refine ⟨_, .inr (.inr hm), hcd.2, fun K SK g1 g2 => ?_⟩
          rw [G.conj_of_comm k2.1 hzV]; exact SK.mul _ _ g1 g2
        · refine ⟨_, .inr (.inr hm), hcd.1, fun K SK g1 g2 => ?_⟩
          rw [G.conj_of_comm k2.1 hzV, ← G.comm_inv k2.1 hzV]; exact SK.mul _ _ g1 (SK.inv _ g2)
    · rcases hcase e2 he2 h2 with ⟨b1, b2⟩ | ⟨b1, b2, b3⟩
      · subst b1
        rw [a3, b2]
        obtain ⟨k1, k2, k3⟩ := A.tab e1 (by omega) a2
        have hz2 := hz.down (show e1 + 1 ≤ e2 by omega)
        have hcd := G.comm_deep (by omega) k2 hz2
        rcases hq3 e1 (by omega) a2 with hm | hm
        · refine ⟨_, .inr (.inr hm), hcd.1, fun K SK g1 g2 => ?_⟩
          rw [G.conj_of_comm hzV k2.1, ← G.comm_inv hzV k2.1]; exact SK.mul _ _ g1 (SK.inv _ g2)
        · refine ⟨_, .inr (.inr hm), hcd.2, fun K SK g1 g2 => ?_⟩
          rw [G.conj_of_comm hzV k2.1]; exact SK.mul _ _ g1 g2
      · rw [a3, b3]
        obtain ⟨c, c1, c2⟩ := A.com e1 e2 hlt he2 a2 b2
        exact ⟨c, .inl c1, c2⟩
  · rintro x (h | h | h)
    · exact A.gen x h
    · rw [h]; intro K S hQ; exact hgz K S (A.gen _ (A.que y List.mem_cons_self) K S hQ)
    · exact (hqv x h).2

/-- the queue is empty: the table induces the subgroup -/
theorem Grp.addInv_end {Q : List Int → Prop} {b : Nat → List Int} {R : List Int → Prop} (A : AddInv P Q b [] R) : Ind P (genP P Q) b := by
  have C : Closed P b R := by
    refine ⟨fun d hd hb => (A.tab d hd hb).2, A.vec, fun q hq => ?_, A.pow, A.com⟩
    rcases A.step q hq with h | h | h
    · exact .inl h
    · cases h
    · exact .inr h
  obtain ⟨K, t⟩ := G.tailSub C P.orders.length 0 (by omega)
  have hgs := G.genP_sub (Q := Q) (fun y hy => A.vec y (A.src y hy))
  have hLK : ∀ x, genP P Q x → K x := fun x hx => genP_le t.sub (fun y hy => t.res y (A.src y hy) (T_zero.2 (A.vec y (A.src y hy)))) hx
  exact ⟨hgs, fun d hd hbd => ⟨A.gen _ (A.tab d hd hbd).1, (A.tab d hd hbd).2⟩, fun x hx d hd hT h0 => t.piv x (hLK x hx) d (by omega) hd hT h0⟩

end

end Go.Proofs.YtldheeicjnncoaaGreat
namespace Go.Proofs.YtldheeicjnncoaaGreat

/-- the first entry that is not 0; the length if there is none -/
def dep (x : List Int) : Nat := x.findIdx (fun e => e != 0)

theorem dep_le (x : List Int) : dep x ≤ x.length := List.findIdx_le_length
theorem dep_zero {x : List Int} {k : Nat} (h : k < dep x) : gt x k = 0 := by
  have hl : k < x.length := Nat.lt_of_lt_of_le h (dep_le x)
  have := List.not_of_lt_findIdx h
  rw [gt_eq x k hl]; simpa using this
theorem dep_ne {x : List Int} (h : dep x < x.length) : gt x (dep x) ≠ 0 := by
  have h2 := List.findIdx_getElem (xs := x) (p := fun e => e != 0) (w := h)
  rw [gt_eq x _ h]
  show ¬ (x[List.findIdx (fun e => e != 0) x] = 0)
  simpa using h2
theorem dep_eq {x : List Int} {d : Nat} (hd : d < x.length) (hz : ∀ k, k < d → gt x k = 0) (h0 : gt x d ≠ 0) : dep x = d := by
  rcases Nat.lt_trichotomy (dep x) d with h | h | h
  · exact absurd (hz _ h) (dep_ne (by omega))
  · exact h
  · exact absurd (dep_zero h) h0
theorem dep_T {P : Pr} {x : List Int} (hx : Vec P.orders x) : T P (dep x) x := ⟨hx, fun _ hk => dep_zero hk⟩
theorem dep_top {P : Pr} {x : List Int} (hP : Valid P) (hx : Vec P.orders x) : dep x = P.orders.length ↔ x = zeros P.orders.length := by
  constructor
  · intro h
    have := dep_T hx
    rw [h] at this
    exact this.top hP
  · intro h
    rcases Nat.lt_or_ge (dep x) x.length with h1 | h1
    · exfalso
      apply dep_ne h1
      have : ∀ k, gt (zeros P.orders.length) k = 0 := fun k => gt_replicate _ _
      rw [h]; exact this _
    · have := dep_le x
      rw [← hx.1]; omega
theorem dep_lead {P : Pr} {x : List Int} {d : Nat} (hd : d < P.orders.length) (hT : T P d x) (h0 : gt x d ≠ 0) : dep x = d := dep_eq (by rw [hT.1.1]; exact hd) hT.2 h0

section
variable {P : Pr} (G : Grp P)
include G

/-- the turn of one entry -/
theorem Grp.clear {d : Nat} (hd : d < P.orders.length) {x z : List Int} (hx : Vec P.orders x) (hz : T P d z) (hz1 : gt z d = 1) (k : Nat) (hk : ((k : Int) + gt x d) % gt P.orders d = 0) :
    gt (rMul P x (pw P z k)) d = 0 ∧ ∀ j, j < d → gt (rMul P x (pw P z k)) j = gt x j := by
  have hp := G.pw_T (Nat.le_of_lt hd) hz k
  have h := G.right (Nat.le_of_lt hd) hx hp
  refine ⟨?_, h.1⟩
  rw [h.2 hd, G.pw_at hd hz, hz1, Int.mul_one, Int.add_emod_emod, Int.add_comm]; exact hk

/-- every element has a representative -/
theorem Grp.rep_from {H : List Int → Prop} {b : Nat → List Int} (I : Ind P H b) (f : Nat) : ∀ d x, d + f = P.orders.length → Vec P.orders x → ∃ y h, H h ∧ T P d h ∧ y = rMul P x h ∧ Vec P.orders y ∧ ∀ e, d ≤ e → e < P.orders.length → b e ≠ [] → gt y e = 0 := by
  induction f with
  | zero =>
    intro d x hd hx
    exact ⟨x, _, I.sub.one, T.zeros G.v d, (G.grp.er x hx).symm, hx, fun e a b' => by omega⟩
  | succ f ih =>
    intro d x hd hx
    have hdn : d < P.orders.length := by omega
    by_cases hb : b d = []
    · obtain ⟨y, h, h1, h2, h3, h4, h5⟩ := ih (d + 1) x (by omega) hx
      refine ⟨y, h, h1, h2.down (Nat.le_succ d), h3, h4, fun e a b' hbe => ?_⟩
      by_cases ed : e = d
      · subst ed; exact absurd hb hbe
      · exact h5 e (by omega) b' hbe
    · obtain ⟨m1, m2, m3⟩ := I.mem d hdn hb
      have ho := G.v.ord7 d hdn
      have hxd := hx.2 d hdn
      have hpv := G.pw_vec m2.1 (gt P.orders d - gt x d).toNat
      have hpT := G.pw_T (Nat.le_of_lt hdn) m2 (gt P.orders d - gt x d).toNat
      have hc := G.clear hdn hx m2 m3 (gt P.orders d - gt x d).toNat (by
        rw [show (((gt P.orders d - gt x d).toNat : Nat) : Int) + gt x d = gt P.orders d by omega, Int.emod_self])
      obtain ⟨y, h, h1, h2, h3, h4, h5⟩ := ih (d + 1) _ (by omega) (G.mulV hx hpv)
      refine ⟨y, rMul P (pw P (b d) (gt P.orders d - gt x d).toNat) h, I.sub.mul _ _ (I.sub.pw m1 _) h1, G.T_mul (Nat.le_of_lt hdn) hpT (h2.down (Nat.le_succ d)), ?_, h4, fun e a b' hbe => ?_⟩
      · rw [h3, G.ass hx hpv h2.1]
      · by_cases ed : e = d
        · subst ed
          rw [h3, (G.right (Nat.succ_le_of_lt hdn) (G.mulV hx hpv) h2).1 e (by omega)]; exact hc.1
        · exact h5 e (by omega) b' hbe

theorem Grp.rep_ex {H : List Int → Prop} {b : Nat → List Int} (I : Ind P H b) {x : List Int} (hx : Vec P.orders x) : ∃ y, Rep P H b x y := by
  obtain ⟨y, h, h1, h2, h3, h4, h5⟩ := G.rep_from I P.orders.length 0 x (by omega) hx
  refine ⟨y, h4, ?_, fun e he hb => h5 e (by omega) he hb⟩
  rw [h3, ← G.ass (G.invV hx) hx h2.1, G.inv_mul hx, G.grp.el _ h2.1]; exact h1

/-- a table can be reduced -/
theorem Grp.red_of_ind {H : List Int → Prop} {b : Nat → List Int} (I : Ind P H b) : ∃ r, Red P H r := by
  have key : ∀ d, ∃ y, (b d = [] → y = []) ∧ (d < P.orders.length → b d ≠ [] → y ≠ [] ∧ H y ∧ T P d y ∧ gt y d = 1 ∧ ∀ e, d < e → e < P.orders.length → b e ≠ [] → gt y e = 0) := by
    intro d
    by_cases hb : b d = []
    · exact ⟨[], fun _ => rfl, fun _ h => absurd hb h⟩
    · by_cases hd : d < P.orders.length
      · obtain ⟨m1, m2, m3⟩ := I.mem d hd hb
        obtain ⟨y, h, h1, h2, h3, h4, h5⟩ := G.rep_from I (P.orders.length - (d + 1)) (d + 1) (b d) (by omega) m2.1
        have hyT : T P d y := by rw [h3]; exact G.T_mul (Nat.le_of_lt hd) m2 (h2.down (Nat.le_succ d))
        refine ⟨y, fun h => absurd h hb, fun _ _ => ⟨?_, ?_, hyT, ?_, fun e a b' hbe => h5 e (by omega) b' hbe⟩⟩
        · intro e
          have := h4.1
          rw [e] at this; simp at this; omega
        · rw [h3]; exact I.sub.mul _ _ m1 h1
        · rw [h3, (G.right (Nat.succ_le_of_lt hd) m2.1 h2).1 d (by omega)]; exact m3
      · exact ⟨[], fun _ => rfl, fun h => absurd h hd⟩
  have hex := fun d => key d
  refine ⟨fun d => Classical.choose (hex d), ⟨⟨I.sub, fun d hd hr => ?_, fun x hx d hd hT h0 => ?_⟩, fun d e hde he h1 h2 => ?_⟩⟩
  · have s := Classical.choose_spec (hex d)
    have hb : b d ≠ [] := fun h => hr (s.1 h)
    have := s.2 hd hb
    exact ⟨this.2.1, this.2.2.1, this.2.2.2.1⟩
  · have s := Classical.choose_spec (hex d)
    exact (s.2 hd (I.piv x hx d hd hT h0)).1
  · have s := Classical.choose_spec (hex d)
    have s2 := Classical.choose_spec (hex e)
    have hb : b d ≠ [] := fun h => h1 (s.1 h)
    have hb2 : b e ≠ [] := fun h => h2 (s2.1 h)
    exact (s.2 (by omega) hb).2.2.2.2 e hde he hb2

omit G in
/-- a unit modulo a prime up to 7 -/
theorem unit_ex {o a : Int} (ho : o = 2 ∨ o = 3 ∨ o = 5 ∨ o = 7) (ha : 0 < a) (hao : a < o) : ∃ k : Nat, ((k : Int) * a) % o = 1 := by
  rcases ho with rfl | rfl | rfl | rfl
  · exact ⟨1, by have : a = 1 := by omega
                 subst this; rfl⟩
  · rcases (show a = 1 ∨ a = 2 by omega) with rfl | rfl
    · exact ⟨1, rfl⟩
    · exact ⟨2, rfl⟩
  · rcases (show a = 1 ∨ a = 2 ∨ a = 3 ∨ a = 4 by omega) with rfl | rfl | rfl | rfl
    · exact ⟨1, rfl⟩
    · exact ⟨3, rfl⟩
    · exact ⟨2, rfl⟩
    · exact ⟨4, rfl⟩
  · rcases (show a = 1 ∨ a = 2 ∨ a = 3 ∨ a = 4 ∨ a = 5 ∨ a = 6 by omega) with rfl | rfl | rfl | rfl | rfl | rfl
    · exact ⟨1, rfl⟩
    · exact ⟨4, rfl⟩
    · exact ⟨5, rfl⟩
    · exact ⟨2, rfl⟩
    · exact ⟨3, rfl⟩
    · exact ⟨6, rfl⟩

open Classical in
/-- every subgroup has a table -/
theorem Grp.ind_ex {H : List Int → Prop} (S : Sub P H) : ∃ b, Ind P H b := by
  refine ⟨fun d => if h : ∃ y, d < P.orders.length ∧ H y ∧ T P d y ∧ gt y d = 1 then Classical.choose h else [], S, fun d _ hb => ?_, fun x hx d hd hT h0 => ?_⟩
  · by_cases h : ∃ y, d < P.orders.length ∧ H y ∧ T P d y ∧ gt y d = 1
    · simp only [dif_pos h] at hb ⊢
      exact (Classical.choose_spec h).2
    · simp only [dif_neg h] at hb; exact absurd rfl hb
  · have hxd := hT.1.2 d hd
    obtain ⟨k, hk⟩ := unit_ex (G.v.ord d hd) (by omega) hxd.2
    have h : ∃ y, d < P.orders.length ∧ H y ∧ T P d y ∧ gt y d = 1 := ⟨pw P x k, hd, S.pw hx k, G.pw_T (Nat.le_of_lt hd) hT k, by rw [G.pw_at hd hT]; exact hk⟩
    simp only [dif_pos h]
    have hc := (Classical.choose_spec h).2.2.1.1.1
    intro e
    rw [e] at hc; simp at hc; omega

open Classical in
/-- THE canonical sequence of a subgroup -/
noncomputable def cseq (P : Pr) (H : List Int → Prop) : List (List Int) := if h : ∃ r, Red P H r then seqOf P.orders.length (Classical.choose h) else []

theorem Grp.cseq_red {H : List Int → Prop} {r : Nat → List Int} (A : Red P H r) : cseq P H = seqOf P.orders.length r := by
  unfold cseq
  have h : ∃ r, Red P H r := ⟨r, A⟩
  rw [dif_pos h]
  exact G.seq_one (Classical.choose_spec h) A
theorem Grp.cseq_spec {H : List Int → Prop} (S : Sub P H) : ∃ r, Red P H r ∧ cseq P H = seqOf P.orders.length r := by
  obtain ⟨b, I⟩ := G.ind_ex S
  obtain ⟨r, A⟩ := G.red_of_ind I
  exact ⟨r, A, G.cseq_red A⟩

end

/-! ### a sequence as a list -/
end Go.Proofs.YtldheeicjnncoaaGreat
namespace Go.Proofs.YtldheeicjnncoaaGreat

section
variable {P : Pr} (G : Grp P)
include G

/-- a factor from the left that clears the leading entry -/
theorem Grp.left_clear {d : Nat} (hd : d < P.orders.length) {x t : List Int} (hx : T P d x) (ht : T P d t) (ht1 : gt t d = 1) :
    T P (d + 1) (rMul P (pw P t (gt P.orders d - gt x d).toNat) x) ∧ ∀ K, Sub P K → K t → (K (rMul P (pw P t (gt P.orders d - gt x d).toNat) x) ↔ K x) := by
  have ho := G.v.ord7 d hd
  have hxd := hx.1.2 d hd
  have hpT := G.pw_T (Nat.le_of_lt hd) ht (gt P.orders d - gt x d).toNat
  refine ⟨?_, fun K S h1 => ⟨fun h2 => ?_, fun h2 => S.mul _ _ (S.pw h1 _) h2⟩⟩
  · refine (G.T_mul (Nat.le_of_lt hd) hpT hx).up ?_
    rw [(G.right (Nat.le_of_lt hd) hpT.1 hx).2 hd, G.pw_at hd ht, ht1, Int.mul_one, Int.emod_add_emod, show (((gt P.orders d - gt x d).toNat : Nat) : Int) + gt x d = gt P.orders d by omega, Int.emod_self]
  · have h3 := S.mul _ _ (S.inv _ (S.pw h1 (gt P.orders d - gt x d).toNat)) h2
    rwa [← G.ass (G.invV hpT.1) hpT.1 hx.1, G.inv_mul hpT.1, G.grp.el _ hx.1] at h3

/-- a leading entry made 1 -/
theorem Grp.lead_one {d : Nat} (hd : d < P.orders.length) {x : List Int} (hx : T P d x) (k : Int) (hk0 : 0 ≤ k) (hk : (k * gt x d) % gt P.orders d = 1) : T P d (pw P x k.toNat) ∧ gt (pw P x k.toNat) d = 1 := by
  refine ⟨G.pw_T (Nat.le_of_lt hd) hx _, ?_⟩
  rw [G.pw_at hd hx, show ((k.toNat : Nat) : Int) = k by omega]; exact hk

end

end Go.Proofs.YtldheeicjnncoaaGreat
namespace Go.Proofs.YtldheeicjnncoaaGreat
open Go.RowKit

theorem tmod_residue (a m : Int) (hm : 0 < m) : (a.tmod m + m).tmod m = a % m := by
  have h1 : -m < a.tmod m ∧ a.tmod m < m := ⟨Int.neg_lt_of_neg_lt (by have := Int.lt_tmod_of_pos a hm; omega), Int.tmod_lt_of_pos a hm⟩
  rw [Int.tmod_eq_emod_of_nonneg (by omega), Int.add_emod_right]
  rw [Int.tmod_eq_emod]
  split
  · rw [show ((0 : Nat) : Int) = 0 from rfl, Int.sub_zero, Int.emod_emod_of_dvd _ (Int.dvd_refl m)]
  · rw [show a % m - m.natAbs = a % m - m by omega, Int.sub_emod, Int.emod_self, Int.sub_zero, Int.emod_emod_of_dvd _ (Int.dvd_refl m), Int.emod_emod_of_dvd _ (Int.dvd_refl m)]

theorem residue_ok (a m : Int) (w : World) (hm : 1 ≤ m ∧ m ≤ 1000000000) :
    Calls Tryz.prog 127 #[.int .i64 a, .int .i64 m] w fun e w' => e = .returned (.int .i64 (a % m)) ∧ w = w' := by
  have h1 : -m < a.tmod m ∧ a.tmod m < m := ⟨by have := Int.lt_tmod_of_pos a (show 0 < m by omega); omega, Int.tmod_lt_of_pos a (by omega)⟩
  have e0 := tmod_residue a m (by omega)
  have e1 : IntKind.i64.wrap (a.tmod m) = a.tmod m := IntWalk.i64_in _ (by omega)
  have e2 : IntKind.i64.wrap (a.tmod m + m) = a.tmod m + m := IntWalk.i64_in _ (by omega)
  have h3 : 0 ≤ a % m ∧ a % m < m := ⟨Int.emod_nonneg _ (by omega), Int.emod_lt_of_pos _ (by omega)⟩
  have e3 : IntKind.i64.wrap (a % m) = a % m := IntWalk.i64_in _ (by omega)
  have hm0 : (m == 0) = false := by simp; omega
  have hm1 : ¬ m = 0 := by omega
  have hm2 : ¬ m = -1 := by omega
  go_enter Tryz.func127, Tryz.ntmps127
  go_wp2
  go_ret
  exact ⟨rfl, rfl⟩

end Go.Proofs.YtldheeicjnncoaaGreat
namespace Go.Proofs.YtldheeicjnncoaaGreat
open Go.RowKit

theorem dep_all {X : List Int} (h : ∀ k, k < X.length → gt X k = 0) : dep X = X.length := by
  have := dep_le X
  rcases Nat.lt_or_ge (dep X) X.length with h1 | h1
  · exact absurd (h _ h1) (dep_ne h1)
  · omega

set_option maxHeartbeats 400000 in
theorem depthOf_ok (v : Value) (X : List Int) (w : World) (S : Nat → Prop) (h : Ints S w v X) :
    Calls Tryz.prog 286 #[v] w fun e w' => e = .returned (.int .i64 (dep X)) ∧ w = w' := by
  obtain ⟨a, cap, rfl, _, _⟩ := h.shape
  go_enter Tryz.func286, Tryz.ntmps286
  go_wp2
  go_loop [7] (fun i => ∃ k : Nat, i = .int .i64 k ∧ k ≤ X.length ∧ ∀ j, j < k → gt X j = 0) (fun i => X.length - (intOf i).toNat)
  case atStart => exact ⟨0, rfl, by omega, fun j hj => by omega⟩
  case round =>
    obtain ⟨k, rfl, hk, hz⟩ := hrel
    have HZ := Lib.hid hz; clear hz
    by_cases hlt : k < X.length
    · obtain ⟨b, off, rfl, _, _, hc⟩ := Ints.at h k hlt
      by_cases hx : gt X k = 0
      · have hb : (gt X k != 0) = false := by simp [hx]
        have HX := Lib.hid hx; clear hx
        go_wp2
        go_round
        case rel => exact ⟨k + 1, by go_num, by omega, fun j hj => by
          rcases Nat.lt_succ_iff_lt_or_eq.1 hj with h1 | h1
          · exact HZ.out j h1
          · rw [h1]; exact HX.out⟩
        case measure => simp [intOf]; omega
      · have hb : (gt X k != 0) = true := by simp [hx]
        have he : dep X = k := dep_eq hlt HZ.out hx
        have HE := Lib.hid he; clear he hx
        go_wp2
        go_ret
        exact ⟨by rw [HE.out]; rfl, rfl⟩
    · have hke : k = X.length := by omega
      have he : dep X = X.length := dep_all (fun j hj => HZ.out j (by omega))
      have HE := Lib.hid he; clear he
      go_wp2
      go_ret
      exact ⟨by rw [HE.out]; rfl, rfl⟩

theorem Grp.comm_eq {P : Pr} (G : Grp P) {x y : List Int} (hx : Vec P.orders x) (hy : Vec P.orders y) : tv P (iInv P x) (iConj P x y) = rMul P (rInv P (rMul P y x)) (rMul P x y) := by
  have hi := G.invV hx
  have hyi := G.invV hy
  have c1 := G.mulV hx hy
  rw [G.iInv_eq hx, G.iConj_eq hx hy, G.tv_eq hi (G.conjV hx hy), G.inv_mulR hy hx]
  unfold rConj
  rw [G.ass hi hyi c1]

set_option maxHeartbeats 400000 in
theorem commutator_ok (P : Pr) (G : Grp P) (w : World) (p a b : Value) (A B : List Int) (Sp Sa Sb : Nat → Prop) (hp : PresP Sp w p P) (ha : Ints Sa w a A) (hb : Ints Sb w b B) (hA : Vec P.orders A) (hB : Vec P.orders B) :
    Calls Tryz.prog 231 #[p, a, b] w (Ret w fun w' v => Own w.heap.size w' v (rMul P (rInv P (rMul P B A)) (rMul P A B))) := by
  have hP := G.v
  have hn6 := hP.n6
  have hl1 : (iInv P A).length ≤ 6 := by rw [(iInv_vec hP A hA).1]; omega
  have hcv : Vec P.orders (iConj P A B) := by rw [G.iConj_eq hA hB]; exact G.conjV hA hB
  have hl2 : (iConj P A B).length ≤ 6 := by rw [hcv.1]; omega
  go_enter Tryz.func231, Tryz.ntmps231
  go_wp2_with fail
  refine Calls.mono (invert_ok P hP w p a A Sp Sa hp ha hA) ?_
  rintro e1 w1 ⟨r, rfl, hg1, hR⟩
  go_wp2_with fail
  refine Calls.mono (conjugate_ok P hP w1 p a b A B Sp Sa Sb (hp.ext hg1) (ha.ext hg1) (hb.ext hg1) hA hB) ?_
  rintro e2 w2 ⟨m, rfl, hg2, hM⟩
  go_wp2_with fail
  refine Calls.mono (multiply_ok P hP w2 p r m _ _ Sp Any Any (hp.ext (grown_trans hg1 hg2)) ((hR.ext0 hg2).ints (by omega)) (hM.ints (by omega)) (iInv_vec hP A hA) hcv) ?_
  rintro e3 w3 ⟨q, rfl, hg3, hQ⟩
  rw [G.comm_eq hA hB] at hQ
  go_wp2
  go_ret
  exact ⟨_, rfl, grown_trans (grown_trans hg1 hg2) hg3, hQ.weak (by have := hg1.size; have := hg2.size; omega)⟩

/-- the state of the extended Euclid after i steps -/
def euc (m a : Int) : Nat → Int × Int × Int × Int
  | 0 => (m, a, 0, 1)
  | i + 1 => let s := euc m a i; if s.2.1 = 0 then s else (s.2.1, s.1 - s.1 / s.2.1 * s.2.1, s.2.2.2, s.2.2.1 - s.1 / s.2.1 * s.2.2.2)

def eucGood (m a : Int) : Bool :=
  (List.range 6).all (fun i => let s := euc m a i; decide (0 ≤ s.1 ∧ s.1 ≤ 7 ∧ 0 ≤ s.2.1 ∧ s.2.1 ≤ 7 ∧ -7 ≤ s.2.2.1 ∧ s.2.2.1 ≤ 7 ∧ -7 ≤ s.2.2.2 ∧ s.2.2.2 ≤ 7 ∧ (s.2.1 = 0 ∨ i < 5))) &&
    decide ((euc m a 5).2.1 = 0 ∧ (euc m a 5).1 = 1 ∧ ((euc m a 5).2.2.1 % m * a) % m = 1)

theorem euc_good {m a : Int} (hm : m = 2 ∨ m = 3 ∨ m = 5 ∨ m = 7) (h1 : 1 ≤ a) (h2 : a < m) : eucGood m a = true := by
  rcases hm with rfl | rfl | rfl | rfl
  · have : a = 1 := by omega
    subst this; decide
  · rcases (show a = 1 ∨ a = 2 by omega) with rfl | rfl <;> decide
  · rcases (show a = 1 ∨ a = 2 ∨ a = 3 ∨ a = 4 by omega) with rfl | rfl | rfl | rfl <;> decide
  · rcases (show a = 1 ∨ a = 2 ∨ a = 3 ∨ a = 4 ∨ a = 5 ∨ a = 6 by omega) with rfl | rfl | rfl | rfl | rfl | rfl <;> decide

theorem euc_stay (m a : Int) (i j : Nat) (h : (euc m a i).2.1 = 0) : euc m a (i + j) = euc m a i := by
  induction j with
  | zero => rfl
  | succ j ih =>
    show euc m a (i + j + 1) = _
    simp only [euc, ih, if_pos h]

set_option maxHeartbeats 1000000 in
theorem inverseMod_ok (a m : Int) (w : World) (hm : m = 2 ∨ m = 3 ∨ m = 5 ∨ m = 7) (h1 : 1 ≤ a) (h2 : a < m) :
    Calls Tryz.prog 126 #[.int .i64 a, .int .i64 m] w fun e w' => (∃ k : Int, e = .returned (.tuple #[.int .i64 k, .bool true]) ∧ 0 ≤ k ∧ k < m ∧ (k * a) % m = 1) ∧ w = w' := by
  have hg := euc_good hm h1 h2
  unfold eucGood at hg
  rw [Bool.and_eq_true, List.all_eq_true] at hg
  obtain ⟨hall, hend⟩ := hg
  have hb : ∀ i, i < 6 → 0 ≤ (euc m a i).1 ∧ (euc m a i).1 ≤ 7 ∧ 0 ≤ (euc m a i).2.1 ∧ (euc m a i).2.1 ≤ 7 ∧ -7 ≤ (euc m a i).2.2.1 ∧ (euc m a i).2.2.1 ≤ 7 ∧ -7 ≤ (euc m a i).2.2.2 ∧ (euc m a i).2.2.2 ≤ 7 ∧ ((euc m a i).2.1 = 0 ∨ i < 5) := fun i hi => of_decide_eq_true (hall i (List.mem_range.2 hi))
  have he := of_decide_eq_true hend
  have HB := Lib.hid (And.intro hb he); clear hb he hall hend
  have hm7 : 2 ≤ m ∧ m ≤ 7 := by omega
  have HM := Lib.hid hm; clear hm
  go_enter Tryz.func126, Tryz.ntmps126
  go_wp2
  go_loopg [6, 7, 8, 9] 5 (fun gk rv nv xv yv wr => ∃ (i : Nat) (r n x y : Int), gk + i = 5 ∧ rv = .int .i64 r ∧ nv = .int .i64 n ∧ xv = .int .i64 x ∧ yv = .int .i64 y ∧ euc m a i = (r, n, x, y) ∧ w = wr)
  case atStart => exact ⟨0, m, a, 0, 1, rfl, rfl, rfl, rfl, rfl, rfl, rfl⟩
  case round =>
    obtain ⟨i, r, n, x, y, hgi, rfl, rfl, rfl, rfl, hs, rfl⟩ := hrel
    have hbi := HB.out.1 i (by omega)
    rw [hs] at hbi
    simp only at hbi
    obtain ⟨b1, b2, b3, b4, b5, b6, b7, b8, b9⟩ := hbi
    have HS := Lib.hid (And.intro hs b9); clear hs b9
    by_cases hn : n = 0
    · subst hn
      have hst : euc m a 5 = (r, 0, x, y) := by
        have h3 := euc_stay m a i (5 - i) (by rw [HS.out.1])
        rw [show i + (5 - i) = 5 by omega] at h3
        rw [h3, HS.out.1]
      have hfin := HB.out.2
      rw [hst] at hfin
      simp only at hfin
      obtain ⟨_, hr, hk⟩ := hfin
      subst hr
      have hkb : 0 ≤ x % m ∧ x % m < m := ⟨Int.emod_nonneg _ (by omega), Int.emod_lt_of_pos _ (by omega)⟩
      have HK := Lib.hid hk; clear hk hst
      go_wp2_with (go_at_call 127; refine Calls.mono (residue_ok x m w (by omega)) ?_; rintro eR wR ⟨rfl, rfl⟩)
      go_ret2
      exact ⟨⟨_, rfl, hkb.1, hkb.2, HK.out⟩, rfl⟩
    · have hnz : (n != 0) = true := by simp [hn]
      have hi5 : i < 5 := HS.out.2.resolve_left hn
      have hnp : 0 < n := by omega
      have hstep : euc m a (i + 1) = (n, r - r / n * n, y, x - r / n * y) := by
        simp only [euc, HS.out.1]; rw [if_neg hn]
      have hb2 := HB.out.1 (i + 1) (by omega)
      rw [hstep] at hb2
      simp only at hb2
      have HS2 := Lib.hid (And.intro hstep hb2); clear hstep
      have hq0 : 0 ≤ r / n := Int.ediv_nonneg b1 (by omega)
      have hq7 : r / n ≤ 7 := Int.le_trans (Int.ediv_le_self _ b1) b2
      have hqn : 0 ≤ r / n * n := Int.mul_nonneg hq0 (by omega)
      have hqn7 : r / n * n ≤ 7 := by omega
      have hqy1 : -100 ≤ r / n * y ∧ r / n * y ≤ 100 := by omega
      have e1 : r.tdiv n = r / n := Int.tdiv_eq_ediv_of_nonneg b1
      have e2 : IntKind.i64.wrap (r / n) = r / n := IntWalk.i64_in _ (by omega)
      have e3 : IntKind.i64.wrap (r / n * n) = r / n * n := IntWalk.i64_in _ (by omega)
      have e4 : IntKind.i64.wrap (r - r / n * n) = r - r / n * n := IntWalk.i64_in _ (by omega)
      have e5 : IntKind.i64.wrap (r / n * y) = r / n * y := IntWalk.i64_in _ (by omega)
      have e6 : IntKind.i64.wrap (x - r / n * y) = x - r / n * y := IntWalk.i64_in _ (by omega)
      clear hb2 hn
      go_wp2
      go_roundg (gk - 1)
      case measure => omega
      case rel => exact ⟨i + 1, n, r - r / n * n, y, x - r / n * y, by omega, rfl, rfl, rfl, rfl, HS2.out.1, rfl⟩

end Go.Proofs.YtldheeicjnncoaaGreat
namespace Go.Proofs.YtldheeicjnncoaaGreat
open Go.RowKit

def numTo (o x : List Int) : Nat → Int
  | 0 => 0
  | k + 1 => numTo o x k * gt o k + gt x k

def num (P : Pr) (x : List Int) : Int := numTo P.orders x P.orders.length

theorem numTo_bd {P : Pr} (hP : Valid P) {x : List Int} (hx : Vec P.orders x) (k : Nat) (hk : k ≤ P.orders.length) : 0 ≤ numTo P.orders x k ∧ numTo P.orders x k + 1 ≤ prodTo P.orders k := by
  induction k with
  | zero => simp [numTo, prodTo]
  | succ k ih =>
    obtain ⟨h1, h2⟩ := ih (by omega)
    have h3 := hP.pos k (by omega)
    have h4 := hx.2 k (by omega)
    have h5 : 0 ≤ numTo P.orders x k * gt P.orders k := Int.mul_nonneg h1 (by omega)
    have h6 : (numTo P.orders x k + 1) * gt P.orders k ≤ prodTo P.orders k * gt P.orders k := Int.mul_le_mul_of_nonneg_right h2 (by omega)
    rw [Int.add_mul, Int.one_mul] at h6
    simp only [numTo, prodTo]
    omega

theorem num_bd {P : Pr} (hP : Valid P) {x : List Int} (hx : Vec P.orders x) : 0 ≤ num P x ∧ num P x < ordP P := by
  have := numTo_bd hP hx P.orders.length (Nat.le_refl _)
  unfold num ordP; omega

/-- the element with a number, from the last entry on -/
def elTo (o : List Int) (N : Nat) (m : Int) : Nat → List Int × Int
  | 0 => (List.replicate N 0, m)
  | k + 1 =>
    let s := elTo o N m k
    (s.1.set (N - 1 - k) (s.2 % gt o (N - 1 - k)), s.2 / gt o (N - 1 - k))

def elAt (P : Pr) (m : Int) : List Int := (elTo P.orders P.orders.length m P.orders.length).1

theorem elTo_inv {P : Pr} (hP : Valid P) (m : Int) (hm : 0 ≤ m) (k : Nat) (hk : k ≤ P.orders.length) :
    Vec P.orders (elTo P.orders P.orders.length m k).1 ∧ 0 ≤ (elTo P.orders P.orders.length m k).2 ∧ (elTo P.orders P.orders.length m k).2 ≤ m := by
  induction k with
  | zero =>
    refine ⟨⟨by simp [elTo], fun i hi => ?_⟩, hm, Int.le_refl _⟩
    have := hP.ord7 i hi
    simp only [elTo]; rw [gt_replicate]; omega
  | succ k ih =>
    obtain ⟨h1, h2, h3⟩ := ih (by omega)
    have ho := hP.ord7 (P.orders.length - 1 - k) (by omega)
    refine ⟨h1.set _ _ ⟨Int.emod_nonneg _ (by omega), fun _ => Int.emod_lt_of_pos _ (by omega)⟩, Int.ediv_nonneg h2 (by omega), ?_⟩
    exact Int.le_trans (Int.ediv_le_self _ h2) h3

theorem elAt_vec {P : Pr} (hP : Valid P) (m : Int) (hm : 0 ≤ m) : Vec P.orders (elAt P m) := (elTo_inv hP m hm _ (Nat.le_refl _)).1

end Go.Proofs.YtldheeicjnncoaaGreat
namespace Go.Proofs.YtldheeicjnncoaaGreat
open Go.RowKit

theorem und_rows : Tryz.prog.underlying 25 = some (.slice 24) := by kernel_rfl
theorem Tryz.infoRow : (Tryz.prog.info? 24).map (fun i => (i.zero, i.size, i.bytes)) = some (some (.slice none 0 0), 1, 24) := by kernel_rfl

/-- append(rows, row), the row made since -/
theorem wp_app_row {ops : Array Oper} {rest : List Oper} {o : Oper} {a : Act} {Q : Exit → Act → World → Prop} {w : World} (hgd : o.guard = none) (s x : Operand)
    (ho : o.op = Op.call { callee := Callee.builtin Builtin.append, args := #[s, x], argTypes := #[25, 25] }) (B : Nat) (w1 w2 : World) (v u : Value) (xs : List (List Int)) (y : List Int) (hs : a.eval s = v) (hown : RowsO B w1 v xs)
    (hg : Ext w1 w2) (hu : OwnIn (From w1.heap.size) w2 u y) (hw : w = w2.alloc (.cells #[u] 24)) (hx : a.eval x = .slice (some ⟨w2.heap.size, 0, none⟩) 1 1) (hlen : xs.length ≤ 1000000) (hbase : B ≤ w1.heap.size)
    (h : ∀ v' w', RowsO B w' v' (xs ++ [y]) → w1.grownBy w' v.ownBlock → w2.grownBy w' v.ownBlock → wpList Tryz.prog ops Q rest (a.put o.dst v') w') :
    wpList Tryz.prog ops Q (o :: rest) a w :=
  wp_app_one rdOwn 25 24 (.slice none 0 0) 24 und_rows Tryz.infoRow rfl (by decide) hgd s x ho B w1 w2 v u xs y hs hown hg hu hw hx hlen hbase h

theorem SlO.lt {α : Type} [Inhabited α] {El : (Nat → Prop) → World → Value → α → Prop} {E B : Nat} {w : World} {v : Value} {xs : List α} (h : SlO El E B w v xs) (k : Nat) (hk : v.ownBlock = some k) : B ≤ k ∧ k < w.heap.size := by
  obtain ⟨vs, G, _, hO, _⟩ := h
  exact hO.lt k hk

theorem SlO.extw {α : Type} [Inhabited α] {El : (Nat → Prop) → World → Value → α → Prop} {E B : Nat} {w w1 w2 : World} {v : Value} {xs : List α} (h : SlO El E B w1 v xs) (hg : Ext w w1) (hB : w.heap.size ≤ B) (k : w1.grownBy w2 v.ownBlock) : Ext w w2 :=
  grown_own hg k (fun j hj hlt => by have := (h.lt j hj).1; omega)

theorem range_map_succ {α : Type} (f : Nat → α) (k : Nat) : (List.range (k + 1)).map f = (List.range k).map f ++ [f k] := by
  rw [List.range_succ, List.map_append]; rfl

/-- the generators of a group -/
def gensOf (n : Nat) : List (List Int) := (List.range n).map (fun k : Nat => unitV n k)

set_option maxHeartbeats 400000 in
theorem generators_ok (P : Pr) (hP : Valid P) (w : World) (p : Value) (Sp : Nat → Prop) (hp : PresP Sp w p P) :
    Calls Tryz.prog 147 #[p] w (Ret w fun w' v => RowsO w.heap.size w' v (gensOf P.orders.length)) := by
  have hn6 := hP.n6
  obtain ⟨pb, po, rfl⟩ := hp.shape
  obtain ⟨ao, capo, hco0, hoi⟩ := hp.ordAt
  have hco := hco0
  go_enter Tryz.func147, Tryz.ntmps147
  go_wp2
  clear hco
  have HCO := Lib.hid hco0; clear hco0
  go_loopw [3, 10] (fun v i wr => ∃ k : Nat, i = .int .i64 k ∧ k ≤ P.orders.length ∧ Ext w wr ∧ RowsO w.heap.size wr v ((List.range k).map (fun k : Nat => unitV P.orders.length k))) (fun _ i _ => P.orders.length - (intOf i).toNat)
  case atStart => exact ⟨0, rfl, by omega, Ext.refl _, SlO.nil _ _ _ _⟩
  case round =>
    obtain ⟨k, rfl, hk, hg, hO⟩ := hrel
    by_cases hlt : k < P.orders.length
    · have hco := hg.cell HCO.out (by simp)
      go_wp2_with fail
      refine Calls.mono (unitVector_ok P.orders.length k wr hlt (by omega)) ?_
      rintro e2 w2 ⟨r, rfl, hg2, hR⟩
      have hRi : OwnIn (From wr.heap.size) w2 r (unitV P.orders.length k) := OwnIn.of hR (by simp [unitV]; omega) (fun j hj _ => hj)
      obtain ⟨ar, capr, rfl, _, _⟩ := hRi.ints.shape
      go_wp2_with (at_builtin; go_must (refine wp_app_row rfl _ _ rfl w.heap.size wr w2 _ _ _ (unitV P.orders.length k) rfl hO hg2 hRi rfl rfl (by simp; omega) hg.size ?_); intro v3 w3 hO3 hg3 hg4)
      have hgx := hO.extw hg (Nat.le_refl _) hg3
      rw [← range_map_succ (fun k : Nat => unitV P.orders.length k)] at hO3
      go_roundw
      case rel => exact ⟨k + 1, by go_num, by omega, hgx, hO3⟩
      case measure => simp [intOf]; omega
    · have hke : k = P.orders.length := by omega
      subst hke
      go_wp2
      go_ret
      exact ⟨_, rfl, hg, hO⟩

end Go.Proofs.YtldheeicjnncoaaGreat
namespace Go.Proofs.YtldheeicjnncoaaGreat
open Go.RowKit

theorem gtMem {α : Type} [Inhabited α] {l : List α} {i : Nat} (h : i < l.length) : gt l i ∈ l := by rw [gt_eq l i h]; exact List.getElem_mem h

theorem nzClosure_ok (x : Int) (w : World) : Calls Tryz.prog 280 #[.int .i64 x] w fun e w' => e = .returned (.bool (x != 0)) ∧ w = w' := by
  go_enter Tryz.func280, Tryz.ntmps280
  go_wp2
  exact bodyPost_ret (v := .bool (x != 0)) (by simp [results, Tryz.results280, go_sem]) rfl ⟨rfl, rfl⟩

set_option maxHeartbeats 1000000 in
theorem idxNz_ok (v : Value) (X : List Int) (w : World) (S : Nat → Prop) (h : Ints S w v X) (hd : dep X < X.length) :
    Calls Tryz.prog 279 #[v, .func (.func 280) #[] #[]] w fun e w' => e = .returned (.int .i64 (dep X)) ∧ w = w' := by
  obtain ⟨a, cap, rfl, _, _⟩ := h.shape
  have HD := Lib.hid hd; clear hd
  go_enter Tryz.func279, Tryz.ntmps279
  go_wp2
  go_loopw [8] (fun v wr => ∃ k : Nat, v = .int .i64 k ∧ k ≤ dep X ∧ w = wr) (fun v _ => X.length - (intOf v).toNat)
  case atStart => exact ⟨0, rfl, by omega, rfl⟩
  case round =>
    obtain ⟨k, rfl, hk, rfl⟩ := hrel
    have hlt : k < X.length := by have := HD.out; omega
    have hlt' : (k : Int) < X.length := by omega
    obtain ⟨b, off, rfl, _, _, hc⟩ := Ints.at h k hlt
    by_cases hx : gt X k = 0
    · have hne : k ≠ dep X := fun e => dep_ne HD.out (by rw [← e]; exact hx)
      have hcon := nzClosure_ok (gt X k) w
      rw [show (gt X k != 0) = false by simp [hx]] at hcon
      have HX := Lib.hid (And.intro hx hne); clear hx hne
      go_wp2_with fail
      refine Calls.mono hcon ?_
      rintro e1 w1 ⟨rfl, rfl⟩
      clear hcon
      go_wp2
      go_roundw
      case rel => exact ⟨k + 1, by go_num, by have := HX.out.2; omega, trivial⟩
      case measure => simp [intOf]; omega
    · have he : dep X = k := dep_eq hlt (fun j hj => dep_zero (by omega)) hx
      have hcon := nzClosure_ok (gt X k) w
      rw [show (gt X k != 0) = true by simp [hx]] at hcon
      have HX := Lib.hid he; clear hx he
      go_wp2_with fail
      refine Calls.mono hcon ?_
      rintro e1 w1 ⟨rfl, rfl⟩
      clear hcon
      go_wp2
      exact bodyPost_ret (v := .int .i64 k) (by simp [results, Tryz.results279, go_sem]) rfl ⟨by rw [HX.out], rfl⟩

/-- append of one value -/
theorem wp_app_val (T E : Nat) (z : Value) (bytes : Nat) (hT : Tryz.prog.underlying T = some (.slice E)) (hE : (Tryz.prog.info? E).map (fun i => (i.zero, i.size, i.bytes)) = some (some z, 1, bytes))
    (hzs : z.cells.size = 1) (hbt : bytes ≤ 64) {ops : Array Oper} {rest : List Oper} {o : Oper} {a : Act} {Q : Exit → Act → World → Prop} {w : World} (hgd : o.guard = none) (s x : Operand)
    (ho : o.op = Op.call { callee := Callee.builtin Builtin.append, args := #[s, x], argTypes := #[T, T] }) (B : Nat) (v u : Value) (xs : List Value) (hs : a.eval s = v) (w0 : World) (hown : OwnV B E w0 v xs) (hw : w = w0.alloc (.cells #[u] E)) (h1 : u.oneCell' = true)
    (hx : a.eval x = .slice (some ⟨w0.heap.size, 0, none⟩) 1 1) (hlen : xs.length ≤ 1000000) (hbase : B ≤ w0.heap.size)
    (h : ∀ v' w', OwnV B E w' v' (xs ++ [u]) → w0.grownBy w' v.ownBlock → wpList Tryz.prog ops Q rest (a.put o.dst v') w') :
    wpList Tryz.prog ops Q (o :: rest) a w := by
  subst hw
  have hga : Ext w0 (w0.alloc (.cells #[u] E)) := World.grownBy_alloc _ _ _
  refine wp_app T E z bytes hT hE hzs hbt hgd s x ho B v xs hs (hown.kept hga (by cases hv : v.ownBlock <;> simp)) (some ⟨w0.heap.size, 0, none⟩) 1 1 [u] hx rfl (by simp) ?_ ?_ (by simp; omega) (by have := hga.size; omega) ?_
  · intro j hj
    have : j = 0 := by omega
    subst this
    exact ⟨_, _, rfl, by rw [World.cell?_alloc_at _ _ _ _ rfl]; rfl⟩
  · intro u' hu'
    simp at hu'; subst hu'; exact h1
  · intro v' w' k1 k2 _ _
    exact h v' w' k1 (grown_trans (grown_of_ext _ hga) k2)

theorem und_intsG : Tryz.prog.underlying 170 = some (.slice 3) := by kernel_rfl
theorem Tryz.infoIntG : (Tryz.prog.info? 3).map (fun i => (i.zero, i.size, i.bytes)) = some (some (.int .i64 0), 1, 8) := by kernel_rfl

/-- the depths of rows, as cells -/
def depV (U : List (List Int)) : List Value := U.map (fun z => .int .i64 (dep z))

set_option maxHeartbeats 1000000 in
theorem pivots_ok (v : Value) (U : List (List Int)) (w : World) (S : Nat → Prop) (h : Rows2 S w v U) (hU : ∀ z ∈ U, dep z < z.length) (hl : U.length ≤ 100000) :
    Calls Tryz.prog 191 #[v] w (Ret w fun w' r => OwnV w.heap.size 3 w' r (depV U)) := by
  obtain ⟨a, cap, rfl, _, _⟩ := Sl.shape h
  have HU := Lib.hid hU; clear hU
  go_enter Tryz.func191, Tryz.ntmps191
  go_wp2
  go_loopw [3, 8] (fun ov iv wr => ∃ (k : Nat) (v4 : Value), v4 = ov ∧ iv = .int .i64 k ∧ k ≤ U.length ∧ Ext w wr ∧ OwnV w.heap.size 3 wr v4 (depV (U.take k))) (fun _ iv _ => U.length - (intOf iv).toNat)
  case atStart => exact ⟨0, _, rfl, rfl, by omega, Ext.refl _, World.ownsRow_nil _ _ _ _⟩
  case round =>
    obtain ⟨k, v4, rfl, rfl, hk, hg, hO⟩ := hrel
    by_cases hlt : k < U.length
    · obtain ⟨b, off, a2, cap2, rfl, _, _, hc, hi⟩ := Rows2.at (Rows2.ext h hg) k hlt
      have hstep : depV (U.take (k + 1)) = depV (U.take k) ++ [.int .i64 (dep (gt U k))] := by unfold depV; rw [take_succ_gt U k hlt, List.map_append]; rfl
      have hdl : (depV (U.take k)).length ≤ 1000000 := by unfold depV; rw [List.length_map, List.length_take]; omega
      have HS := Lib.hid hstep; clear hstep
      have hlt' : (k : Int) < U.length := by omega
      go_wp2_with fail
      refine Calls.mono (idxNz_ok _ (gt U k) wr _ hi (HU.out _ (gtMem hlt))) ?_
      rintro e1 w1 ⟨rfl, rfl⟩
      go_wp2_with (first | (at_builtin; refine wp_app_val 170 3 (.int .i64 0) 8 und_intsG Tryz.infoIntG rfl (by decide) rfl _ _ rfl w.heap.size v4 _ (depV (U.take k)) rfl wr hO rfl rfl rfl hdl hg.size ?_; intro v5 w5 hO5 hg5) | fail)
      have hg6 : Ext w w5 := grown_own hg hg5 (fun j hj hlt => by have := (hO.lt j hj).1; omega)
      go_roundw
      case rel => exact ⟨k + 1, v5, rfl, by go_num, by omega, hg6, by rw [HS.out]; exact hO5⟩
      case measure => simp [intOf]; omega
    · have hke : k = U.length := by omega
      subst hke
      rw [List.take_length] at hO
      have hsh : ∃ az capz, v4 = .slice az U.length capz := by
        rcases hO.form with ⟨h1, h2⟩ | ⟨g, cp, h1, _⟩
        · have h3 : U.length = 0 := by unfold depV at h2; rw [List.map_eq_nil_iff] at h2; rw [h2]; rfl
          exact ⟨none, 0, by rw [h1, h3]⟩
        · exact ⟨_, _, by rw [h1]; unfold depV; rw [List.length_map]⟩
      obtain ⟨az, capz, rfl⟩ := hsh
      go_wp2
      go_ret
      exact ⟨_, rfl, hg, hO⟩

end Go.Proofs.YtldheeicjnncoaaGreat
namespace Go.Proofs.YtldheeicjnncoaaGreat
open Go.RowKit

theorem Tryz.infoRows : (Tryz.prog.info? 25).map (fun i => (i.zero, i.size, i.bytes)) = some (some (.slice none 0 0), 1, 24) := by kernel_rfl
theorem und_rows3 : Tryz.prog.underlying 26 = some (.slice 25) := by kernel_rfl

/-- a struct of three cells that may be written -/
def Box3 (W : World) (b : Nat) (x0 x1 x2 : Value) : Prop :=
  b < W.heap.size ∧ W.cell? ⟨b, 0, none⟩ = some x0 ∧ W.cell? ⟨b, 1, none⟩ = some x1 ∧ W.cell? ⟨b, 2, none⟩ = some x2 ∧ ∀ k, W.frozen? ⟨b, k, none⟩ = false
theorem Box3.ext {W W' : World} {b : Nat} {x0 x1 x2 : Value} (h : Box3 W b x0 x1 x2) (hg : Ext W W') : Box3 W' b x0 x1 x2 := by
  obtain ⟨h0, h1, h2, h3, h4⟩ := h
  exact ⟨Nat.lt_of_lt_of_le h0 hg.size, hg.cell h1 (by simp), hg.cell h2 (by simp), hg.cell h3 (by simp), fun k => (World.frozen?_of_block (w := W) (hg.block b h0 (by simp))).trans (h4 k)⟩
theorem Box3.put {W : World} {b : Nat} {x0 x1 x2 : Value} (h : Box3 W b x0 x1 x2) (v : Value) :
    Box3 (W.setCell ⟨b, 0, none⟩ v) b v x1 x2 ∧ Box3 (W.setCell ⟨b, 1, none⟩ v) b x0 v x2 ∧ Box3 (W.setCell ⟨b, 2, none⟩ v) b x0 x1 v := by
  obtain ⟨h0, h1, h2, h3, h4⟩ := h
  have hs : ∀ k, b < (W.setCell ⟨b, k, none⟩ v).heap.size := fun k => by simpa [World.setCell] using h0
  refine ⟨⟨hs 0, World.cell?_setCell_same _ _ _ h1, ?_, ?_, fun k => by simp [h4]⟩, ⟨hs 1, ?_, World.cell?_setCell_same _ _ _ h2, ?_, fun k => by simp [h4]⟩, ⟨hs 2, ?_, ?_, World.cell?_setCell_same _ _ _ h3, fun k => by simp [h4]⟩⟩
  all_goals first
    | exact (World.cell?_setCell_other _ _ _ _ (by simp)).trans h1
    | exact (World.cell?_setCell_other _ _ _ _ (by simp)).trans h2
    | exact (World.cell?_setCell_other _ _ _ _ (by simp)).trans h3
theorem Box3.made (w : World) (T : Nat) (x0 x1 x2 : Value) : Box3 (w.alloc (.cells #[x0, x1, x2] T)) w.heap.size x0 x1 x2 := by
  refine ⟨by simp, ?_, ?_, ?_, fun k => World.frozen?_alloc_at _ _ _ _ rfl⟩ <;> (rw [World.cell?_alloc_at _ _ _ _ rfl]; rfl)

/-- only blocks in F have turned -/
structure Touch (F : Nat → Prop) (w w' : World) : Prop where
  os : w'.os = w.os
  tape : w'.tape = w.tape
  output : w'.output = w.output
  size : w.heap.size ≤ w'.heap.size
  block : ∀ k, k < w.heap.size → ¬ F k → w'.heap[k]? = w.heap[k]?
theorem Touch.of {F : Nat → Prop} {w w' : World} {r : Option Nat} (h : w.grownBy w' r) (hr : ∀ k, r = some k → F k) : Touch F w w' :=
  ⟨h.os, h.tape, h.output, h.size, fun k hk hF => h.block k hk (fun e => hF (hr k e.symm))⟩
theorem Box3.keep {W W' : World} {b : Nat} {x0 x1 x2 : Value} (h : Box3 W b x0 x1 x2) (hs : W.heap.size ≤ W'.heap.size) (e : W'.heap[b]? = W.heap[b]?) : Box3 W' b x0 x1 x2 := by
  obtain ⟨c0, c1, c2, c3, c4⟩ := h
  exact ⟨Nat.lt_of_lt_of_le c0 hs, (World.cell?_of_block (w := W) e).trans c1, (World.cell?_of_block (w := W) e).trans c2, (World.cell?_of_block (w := W) e).trans c3, fun k => (World.frozen?_of_block (w := W) e).trans (c4 k)⟩

end Go.Proofs.YtldheeicjnncoaaGreat
namespace Go.Proofs.YtldheeicjnncoaaGreat
open Go.RowKit

/-- a slice of one-cell elements in a block that the call owns, its spare too -/
def QOwn (B E : Nat) (w : World) (v : Value) (vs : List Value) : Prop :=
  (v = .slice none 0 0 ∧ vs = []) ∨ ∃ g off cap cur, v = .slice (some ⟨g, off, none⟩) vs.length cap ∧ B ≤ g ∧ w.heap[g]? = some (.cells cur E (0, 0)) ∧ vs.length ≤ cap ∧ cap ≤ maxLen ∧ off + cap ≤ cur.size ∧ ∀ i, i < vs.length → cur[off + i]? = some (gt vs i)

theorem QOwn.nil (B E : Nat) (w : World) : QOwn B E w (.slice none 0 0) [] := .inl ⟨rfl, rfl⟩

theorem QOwn.lt {B E : Nat} {w : World} {v : Value} {vs : List Value} (h : QOwn B E w v vs) (k : Nat) (hk : v.ownBlock = some k) : B ≤ k ∧ k < w.heap.size := by
  rcases h with ⟨rfl, _⟩ | ⟨g, off, cap, cur, rfl, hb, hg, _⟩
  · simp [Value.ownBlock] at hk
  · simp [Value.ownBlock] at hk
    subst hk
    exact ⟨hb, (Array.getElem?_eq_some_iff.1 hg).1⟩

theorem QOwn.of {B E : Nat} {w : World} {v : Value} {vs : List Value} (h : OwnV B E w v vs) : QOwn B E w v vs := by
  obtain ⟨h1, h | ⟨g, cap, cur, hv, hg, hb, hnc, hcm, hsz, hx⟩⟩ := h
  · exact .inl ⟨h.1, List.eq_nil_of_length_eq_zero h.2⟩
  · refine .inr ⟨g, 0, cap, cur, hv, hg, hb, hnc, hcm, by omega, fun i hi => ?_⟩
    have h2 : (cur.toList.take (vs.length * 1))[i]? = vs[i]? := by rw [hx]
    rw [List.getElem?_take_of_lt (by omega)] at h2
    rw [Nat.zero_add, ← Array.getElem?_toList, h2]
    simp [gt, hi]

theorem QOwn.kept {B E : Nat} {w w' : World} {v : Value} {vs : List Value} (h : QOwn B E w v vs) (hb : ∀ k, v.ownBlock = some k → w'.heap[k]? = w.heap[k]?) : QOwn B E w' v vs := by
  rcases h with h | ⟨g, off, cap, cur, rfl, h1, h2, r⟩
  · exact .inl h
  · exact .inr ⟨g, off, cap, cur, rfl, h1, by rw [hb g rfl]; exact h2, r⟩

theorem QOwn.shape {B E : Nat} {w : World} {v : Value} {vs : List Value} (h : QOwn B E w v vs) : ∃ a cap, v = .slice a vs.length cap ∧ vs.length ≤ maxLen := by
  rcases h with ⟨rfl, rfl⟩ | ⟨g, off, cap, cur, rfl, _, _, h1, h2, _⟩
  · exact ⟨none, 0, rfl, by simp⟩
  · exact ⟨_, _, rfl, Nat.le_trans h1 h2⟩

theorem QOwn.at {B E n cap : Nat} {w : World} {a : Option Addr} {vs : List Value} (h : QOwn B E w (.slice a n cap) vs) (i : Nat) (hi : i < vs.length) : ∃ g off, a = some ⟨g, off, none⟩ ∧ B ≤ g ∧ g < w.heap.size ∧ w.cell? ⟨g, off + i, none⟩ = some (gt vs i) := by
  rcases h with ⟨_, rfl⟩ | ⟨g, off, cap', cur, hv, hb, hg, h1, h2, h3, h4⟩
  · simp at hi
  · cases hv
    refine ⟨g, off, rfl, hb, (Array.getElem?_eq_some_iff.1 hg).1, ?_⟩
    simp only [World.cell?, hg, Option.isSome_none, Bool.false_eq_true, if_false]
    exact h4 i hi

/-- the queue without its first -/
theorem QOwn.tail {B E n cap : Nat} {w : World} {a : Option Addr} {x : Value} {vs : List Value} (h : QOwn B E w (.slice a n cap) (x :: vs)) : QOwn B E w (subSl (.slice a n cap) 1 n) vs := by
  rcases h with ⟨_, h⟩ | ⟨g, off, cap', cur, hv, hb, hg, h1, h2, h3, h4⟩
  · cases h
  · simp only [Value.slice.injEq] at hv
    obtain ⟨rfl, rfl, rfl⟩ := hv
    simp only [List.length_cons] at h1 h4 ⊢
    unfold subSl
    simp only [Nat.add_sub_cancel]
    by_cases e : cap = 1
    · have hn : vs = [] := List.eq_nil_of_length_eq_zero (by omega)
      subst hn
      rw [if_pos e]
      refine .inr ⟨g, off, 0, cur, ?_, hb, hg, by simp, by simp, by omega, by simp⟩
      subst e; rfl
    · rw [if_neg e]
      refine .inr ⟨g, off + 1, cap - 1, cur, by simp [Addr.add], hb, hg, by omega, by omega, by omega, fun i hi => ?_⟩
      have := h4 (i + 1) (by omega)
      rw [show off + 1 + i = off + (i + 1) by omega, this]
      simp [gt]

theorem QOwn.own_tail {a : Option Addr} {n cap : Nat} (k : Nat) (h : (subSl (.slice a n cap) 1 n).ownBlock = some k) : (Value.slice a n cap).ownBlock = some k := by
  unfold subSl at h
  cases a with
  | none => simp [Value.ownBlock] at h
  | some a =>
    by_cases e : cap = 1
    · simp only [if_pos e] at h; exact h
    · simp only [if_neg e, Option.map_some, Value.ownBlock] at h ⊢
      unfold Addr.add at h
      simpa using h

/-- append of one-cell elements -/
theorem wp_q_app (T E : Nat) (z : Value) (bytes : Nat) (hT : Tryz.prog.underlying T = some (.slice E)) (hE : (Tryz.prog.info? E).map (fun i => (i.zero, i.size, i.bytes)) = some (some z, 1, bytes))
    (hzs : z.cells.size = 1) (hbt : bytes ≤ 64) {ops : Array Oper} {rest : List Oper} {o : Oper} {a : Act} {Q : Exit → Act → World → Prop} {w : World} (hgd : o.guard = none) (s x : Operand)
    (ho : o.op = Op.call { callee := Callee.builtin Builtin.append, args := #[s, x], argTypes := #[T, T] }) (base : Nat) (v : Value) (xs : List Value) (hs : a.eval s = v) (hown : QOwn base E w v xs)
    (H : Nat) (u : Value) (hx : a.eval x = .slice (some ⟨H, 0, none⟩) 1 1) (hu : w.cell? ⟨H, 0, none⟩ = some u) (h1 : u.oneCell' = true) (hlen : xs.length ≤ 1000000) (hbase : base ≤ w.heap.size)
    (h : ∀ v' w', QOwn base E w' v' (xs ++ [u]) → w.grownBy w' v.ownBlock → (v'.ownBlock = v.ownBlock ∨ ∀ k, v'.ownBlock = some k → w.heap.size ≤ k) → wpList Tryz.prog ops Q rest (a.put o.dst v') w') :
    wpList Tryz.prog ops Q (o :: rest) a w := by
  rcases hown with ⟨rfl, rfl⟩ | ⟨g, off, cap, cur, rfl, hb, hg, hnc, hcm, hsz, hc⟩
  · refine wp_app T E z bytes hT hE hzs hbt hgd s x ho base (.slice none 0 0) [] hs (World.ownsRow_nil _ _ _ _) (some ⟨H, 0, none⟩) 1 1 [u] hx rfl (by simp) ?_ ?_ (by simp) hbase ?_
    · intro j hj
      have : j = 0 := by omega
      subst this
      exact ⟨H, 0, rfl, hu⟩
    · intro u' hu'
      simp at hu'; subst hu'; exact h1
    · intro v' w' k1 k2 _ k4
      exact h v' w' (QOwn.of k1) k2 (k4.imp id (fun e k hk => by rw [e] at hk; cases hk; exact Nat.le_refl _))
  · obtain ⟨i0, hi, hz0, hz1, hz2⟩ := info_parts hE
    have hgs : g < w.heap.size := (Array.getElem?_eq_some_iff.1 hg).1
    have hcell : ∀ i, i < cur.size → w.cell? ⟨g, i, none⟩ = cur[i]? := fun i _ => by
      simp only [World.cell?, hg, Option.isSome_none, Bool.false_eq_true, if_false]
    refine wpList_append_arg w hgd s x T ho E i0 z 1 bytes hT hi hz0 hz1 hz2 hzs (by decide) g off xs.length cap xs hs (by omega) ?_ ⟨H, 0, none⟩ 1 1 [u] hx rfl ?_ ?_ ?_ (by unfold maxLen; omega) (by have := Nat.mul_le_mul (show xs.length + 1 ≤ 1000001 by omega) hbt; omega) ?_ ?_
    · intro j u' hj
      have hj2 : j < xs.length := by
        rcases Nat.lt_or_ge j xs.length with h | h
        · exact h
        · rw [List.getElem?_eq_none h] at hj; cases hj
      rw [hcell _ (by omega), hc j hj2]
      simp [gt, hj]
    · intro j u' hj
      match j, hj with
      | 0, hj =>
        simp at hj; subst hj
        simpa [Addr.add] using hu
    · intro u' hu'
      simp at hu'; subst hu'; exact h1
    · intro hroom j hj
      have : j = 0 := by simpa using hj
      subst this
      refine ⟨?_, ?_⟩
      · rw [hcell _ (by omega), Array.getElem?_eq_getElem (by omega)]; rfl
      · simp [World.frozen?, hg]
    · intro hroom
      have e : w.setCells g (off + xs.length * 1) [u] = w.setCell ⟨g, off + xs.length, none⟩ u := by
        simp [World.setCells]
      rw [e]
      refine h _ _ (.inr ⟨g, off, cap, cur.setIfInBounds (off + xs.length) u, by simp, hb, ?_, by simpa using hroom, hcm, by simpa using hsz, fun i hi => ?_⟩) ?_ (.inl rfl)
      · simp only [World.setCell, Array.getElem?_modify, if_true, hg, Option.map_some]
        simp
      · simp only [List.length_append, List.length_singleton] at hi
        by_cases ei : i = xs.length
        · subst ei
          rw [gt_concat, Array.getElem?_setIfInBounds_self]
          simp; omega
        · rw [gt_append_left _ _ _ (by omega), Array.getElem?_setIfInBounds_ne (by omega)]
          exact hc i (by omega)
      · exact ⟨rfl, rfl, rfl, by simp [World.setCell], fun k hk hne => Below.heap_setCell _ _ _ _ (by intro e2; exact hne (by rw [e2]; rfl))⟩
    · intro hgrow v' w' k1 k2
      have k3 : OwnV base E w' v' (xs ++ [u]) := by
        unfold OwnV
        rw [List.length_append]
        obtain ⟨h1', h2'⟩ := k1
        refine ⟨h1', ?_⟩
        rcases h2' with h | ⟨g', cap', cur', hv, hg', r⟩
        · exact .inl h
        · exact .inr ⟨g', cap', cur', hv, by omega, r⟩
      refine h v' w' (QOwn.of k3) (grown_of_ext _ k2) (.inr (fun k hk => ?_))
      obtain ⟨_, h2'⟩ := k1
      rcases h2' with h | ⟨g', cap', cur', rfl, hg', r⟩
      · rw [h.1] at hk; simp [Value.ownBlock] at hk
      · simp [Value.ownBlock] at hk
        omega

/-- rows in blocks outside bad and outside the queue's own -/
def ShQ (bad : Nat → Prop) (B : Nat) (w : World) (v : Value) (xs : List (List Int)) : Prop :=
  ∃ vs, vs.length = xs.length ∧ QOwn B 24 w v vs ∧ ∀ i, i < xs.length → Ints (fun k => ¬ bad k ∧ v.ownBlock ≠ some k) w (gt vs i) (gt xs i)

theorem ShQ.nil (bad : Nat → Prop) (B : Nat) (w : World) : ShQ bad B w (.slice none 0 0) [] := ⟨[], rfl, QOwn.nil _ _ _, by simp⟩

theorem ShQ.shape {bad : Nat → Prop} {B : Nat} {w : World} {v : Value} {xs : List (List Int)} (h : ShQ bad B w v xs) : ∃ a cap, v = .slice a xs.length cap ∧ xs.length ≤ maxLen := by
  obtain ⟨vs, hl, hq, _⟩ := h
  obtain ⟨a, cap, rfl, hm⟩ := hq.shape
  exact ⟨a, cap, by rw [hl], by omega⟩

theorem ShQ.lt {bad : Nat → Prop} {B : Nat} {w : World} {v : Value} {xs : List (List Int)} (h : ShQ bad B w v xs) (k : Nat) (hk : v.ownBlock = some k) : B ≤ k ∧ k < w.heap.size := by
  obtain ⟨vs, _, hq, _⟩ := h
  exact hq.lt k hk

/-- nothing that the queue reads has turned -/
theorem ShQ.kept {bad bad' : Nat → Prop} {B : Nat} {w w' : World} {v : Value} {xs : List (List Int)} (h : ShQ bad B w v xs) (hs : w.heap.size ≤ w'.heap.size) (hb : ∀ k, k < w.heap.size → (v.ownBlock = some k ∨ ¬ bad k) → w'.heap[k]? = w.heap[k]?)
    (hbad : ∀ k, k < w.heap.size → bad' k → bad k) : ShQ bad' B w' v xs := by
  obtain ⟨vs, hl, hq, hr⟩ := h
  have hlt := hq.lt
  refine ⟨vs, hl, hq.kept (fun k hk => hb k (hlt k hk).2 (.inl hk)), fun i hi => Ints.mono (hr i hi) (fun k hk hlt => ⟨⟨fun h => hk.1 (hbad k hlt h), hk.2⟩, Nat.lt_of_lt_of_le hlt hs, hb k hlt (.inr hk.1)⟩)⟩

theorem ShQ.ext {bad : Nat → Prop} {B : Nat} {w w' : World} {v : Value} {xs : List (List Int)} (h : ShQ bad B w v xs) (hg : Ext w w') : ShQ bad B w' v xs :=
  h.kept hg.size (fun k hk _ => hg.block k hk (by simp)) (fun _ _ h => h)

theorem ShQ.head {bad : Nat → Prop} {B n cap : Nat} {w : World} {a : Option Addr} {xs : List (List Int)} (h : ShQ bad B w (.slice a n cap) xs) (i : Nat) (hi : i < xs.length) :
    ∃ g off u, a = some ⟨g, off, none⟩ ∧ B ≤ g ∧ g < w.heap.size ∧ w.cell? ⟨g, off + i, none⟩ = some u ∧ Ints (fun k => ¬ bad k ∧ k ≠ g) w u (gt xs i) := by
  obtain ⟨vs, hl, hq, hr⟩ := h
  obtain ⟨g, off, rfl, h1, h2, h3⟩ := hq.at i (by omega)
  exact ⟨g, off, _, rfl, h1, h2, h3, Ints.sub (hr i hi) (fun k hk _ => ⟨hk.1, fun e => hk.2 (by rw [e]; rfl)⟩)⟩

theorem ShQ.tail {bad : Nat → Prop} {B n cap : Nat} {w : World} {a : Option Addr} {x : List Int} {xs : List (List Int)} (h : ShQ bad B w (.slice a n cap) (x :: xs)) : ShQ bad B w (subSl (.slice a n cap) 1 n) xs := by
  obtain ⟨vs, hl, hq, hr⟩ := h
  cases vs with
  | nil => simp at hl
  | cons u vs =>
    refine ⟨vs, by simpa using hl, hq.tail, fun i hi => ?_⟩
    have h2 := hr (i + 1) (by simpa using hi)
    have h3 : Ints (fun k => ¬ bad k ∧ (Value.slice a n cap).ownBlock ≠ some k) w (gt vs i) (gt xs i) := by simpa [gt] using h2
    exact Ints.sub h3 (fun k hk _ => ⟨hk.1, fun e => hk.2 (QOwn.own_tail k e)⟩)

/-- append of one row -/
theorem wp_shq_app {ops : Array Oper} {rest : List Oper} {o : Oper} {a : Act} {Q : Exit → Act → World → Prop} {w : World} (hgd : o.guard = none) (s x : Operand)
    (ho : o.op = Op.call { callee := Callee.builtin Builtin.append, args := #[s, x], argTypes := #[25, 25] }) (bad : Nat → Prop) (B : Nat) (v u : Value) (xs : List (List Int)) (y : List Int) (hs : a.eval s = v) (w0 : World) (hown : ShQ bad B w0 v xs)
    (hw : w = w0.alloc (.cells #[u] 24)) (hu : Ints (fun k => ¬ bad k ∧ v.ownBlock ≠ some k) w0 u y) (hx : a.eval x = .slice (some ⟨w0.heap.size, 0, none⟩) 1 1) (hlen : xs.length ≤ 1000000) (hbase : B ≤ w0.heap.size)
    (h : ∀ v' w', ShQ bad B w' v' (xs ++ [y]) → w0.grownBy w' v.ownBlock → (v'.ownBlock = v.ownBlock ∨ ∀ k, v'.ownBlock = some k → w0.heap.size ≤ k) → wpList Tryz.prog ops Q rest (a.put o.dst v') w') :
    wpList Tryz.prog ops Q (o :: rest) a w := by
  subst hw
  obtain ⟨vs, hl, hq, hr⟩ := hown
  have hga : Ext w0 (w0.alloc (.cells #[u] 24)) := World.grownBy_alloc _ _ _
  have hlt := hq.lt
  have hq2 : QOwn B 24 (w0.alloc (.cells #[u] 24)) v vs := hq.kept (fun k hk => hga.block k (hlt k hk).2 (by simp))
  have hone : u.oneCell' = true := rdInts.one hu
  refine wp_q_app 25 24 (.slice none 0 0) 24 und_rows Tryz.infoRow rfl (by decide) hgd s x ho B v vs hs hq2 w0.heap.size u hx (by rw [World.cell?_alloc_at _ _ _ _ rfl]; rfl) hone (by omega) (by have := hga.size; omega) ?_
  intro v' w' h1 h2 h3
  have hg2 : w0.grownBy w' v.ownBlock := grown_trans (grown_of_ext _ hga) h2
  have hnew : ∀ k, k < w0.heap.size → v'.ownBlock = some k → v.ownBlock = some k := fun k hk e => by
    rcases h3 with h | h
    · rw [← h]; exact e
    · have := h k e; simp at this; omega
  refine h v' w' ⟨vs ++ [u], by simp [hl], h1, fun i hi => ?_⟩ hg2 (h3.imp id (fun h k hk => by have := h k hk; simp at this; omega))
  simp only [List.length_append, List.length_singleton] at hi
  have hfr : ∀ k, (¬ bad k ∧ v.ownBlock ≠ some k) → k < w0.heap.size → (¬ bad k ∧ v'.ownBlock ≠ some k) ∧ k < w'.heap.size ∧ w'.heap[k]? = w0.heap[k]? := fun k hk hlt =>
    ⟨⟨hk.1, fun e => hk.2 (hnew k hlt e)⟩, Nat.lt_of_lt_of_le hlt hg2.size, hg2.block k hlt (fun e => hk.2 e.symm)⟩
  by_cases hlt : i < xs.length
  · rw [gt_append_left _ _ _ (by omega), gt_append_left _ _ _ hlt]
    exact Ints.mono (hr i hlt) hfr
  · have hi2 : i = xs.length := by omega
    subst hi2
    rw [gt_concat, ← hl, gt_concat]
    exact Ints.mono hu hfr

end Go.Proofs.YtldheeicjnncoaaGreat
namespace Go.Proofs.YtldheeicjnncoaaGreat
open Go.RowKit

/-- a table of rows in an array of the call's own: nil where nothing stands; the rows lie elsewhere -/
def TabAt (B : Nat) (bad : Nat → Prop) (w : World) (gb n : Nat) (b : List (List Int)) : Prop :=
  ∃ vs, vs.length = n ∧ b.length = n ∧ OwnV B 24 w (.slice (some ⟨gb, 0, none⟩) n n) vs ∧
    ∀ i, i < n → (gt b i = [] ∧ gt vs i = .slice none 0 0) ∨ (gt b i ≠ [] ∧ Ints (fun k => k ≠ gb ∧ ¬ bad k) w (gt vs i) (gt b i))

theorem TabAt.lt {B gb n : Nat} {bad : Nat → Prop} {w : World} {b : List (List Int)} (h : TabAt B bad w gb n b) : B ≤ gb ∧ gb < w.heap.size := by
  obtain ⟨vs, _, _, hO, _⟩ := h
  exact hO.lt gb rfl

theorem TabAt.len {B gb n : Nat} {bad : Nat → Prop} {w : World} {b : List (List Int)} (h : TabAt B bad w gb n b) : b.length = n := by
  obtain ⟨vs, _, h2, _⟩ := h
  exact h2

/-- what the table reads has not turned -/
theorem TabAt.kept {B gb n : Nat} {bad bad' : Nat → Prop} {w w' : World} {b : List (List Int)} (h : TabAt B bad w gb n b) (hs : w.heap.size ≤ w'.heap.size) (hb : ∀ k, k < w.heap.size → (k = gb ∨ ¬ bad k) → w'.heap[k]? = w.heap[k]?)
    (hbad : ∀ k, k < w.heap.size → bad' k → bad k) : TabAt B bad' w' gb n b := by
  obtain ⟨vs, h1, h2, h3, h4⟩ := h
  have hlt := h3.lt gb rfl
  refine ⟨vs, h1, h2, ?_, fun i hi => (h4 i hi).imp id (fun ⟨a, b⟩ => ⟨a, Ints.mono b (fun k hk hlt => ⟨⟨hk.1, fun e => hk.2 (hbad k hlt e)⟩, Nat.lt_of_lt_of_le hlt hs, hb k hlt (.inr hk.2)⟩)⟩)⟩
  exact ownsRow_move h3 (fun k hk => by
    have : gb = k := by simpa [Value.ownBlock] using hk
    subst this
    exact ⟨hb _ hlt.2 (.inl rfl), hlt.1⟩)

theorem TabAt.ext {B gb n : Nat} {bad : Nat → Prop} {w w' : World} {b : List (List Int)} (h : TabAt B bad w gb n b) (hg : Ext w w') : TabAt B bad w' gb n b :=
  h.kept hg.size (fun k hk _ => hg.block k hk (by simp)) (fun _ _ h => h)

theorem TabAt.at {B gb n : Nat} {bad : Nat → Prop} {w : World} {b : List (List Int)} (h : TabAt B bad w gb n b) (i : Nat) (hi : i < n) :
    w.frozen? ⟨gb, i, none⟩ = false ∧ ((gt b i = [] ∧ w.cell? ⟨gb, i, none⟩ = some (.slice none 0 0)) ∨ (gt b i ≠ [] ∧ ∃ a cap, w.cell? ⟨gb, i, none⟩ = some (.slice (some a) (gt b i).length cap) ∧ Ints (fun k => k ≠ gb ∧ ¬ bad k) w (.slice (some a) (gt b i).length cap) (gt b i))) := by
  obtain ⟨vs, h1, h2, h3, h4⟩ := h
  have hc := h3.cell i (by omega)
  refine ⟨?_, ?_⟩
  · have hn : n = vs.length := h1.symm
    subst hn
    exact World.ownsRow.frozenAt h3 i
  · rcases h4 i hi with ⟨a, b'⟩ | ⟨a, b'⟩
    · exact .inl ⟨a, by rw [hc, b']⟩
    · obtain ⟨ad, cap, hv, _, _⟩ := b'.shape
      rw [hv] at hc b'
      cases ad with
      | none => exact absurd b'.nil_of_none.1 a
      | some ad => exact .inr ⟨a, ad, cap, hc, b'⟩

/-- an entry is put in its place -/
theorem TabAt.put {B gb n : Nat} {bad : Nat → Prop} {w : World} {b : List (List Int)} {u : Value} {y : List Int} (h : TabAt B bad w gb n b) (j : Nat) (hu : Ints (fun k => k ≠ gb ∧ ¬ bad k) w u y) (hy : y ≠ []) :
    TabAt B bad (w.setCell ⟨gb, j, none⟩ u) gb n (b.set j y) ∧ w.grownBy (w.setCell ⟨gb, j, none⟩ u) (some gb) := by
  obtain ⟨vs, h1, h2, h3, h4⟩ := h
  have hn : n = vs.length := h1.symm
  subst hn
  obtain ⟨g1, g2⟩ := World.ownsRow.stored h3 j u
  have hfr : ∀ k, (k ≠ gb ∧ ¬ bad k) → k < w.heap.size → (k ≠ gb ∧ ¬ bad k) ∧ k < (w.setCell ⟨gb, j, none⟩ u).heap.size ∧ (w.setCell ⟨gb, j, none⟩ u).heap[k]? = w.heap[k]? := fun k hk hlt =>
    ⟨hk, by simpa [World.setCell] using hlt, Below.heap_setCell _ _ _ _ (by simpa using hk.1)⟩
  refine ⟨⟨vs.set j u, by simp, by simp [h2], ?_, fun i hi => ?_⟩, g2⟩
  · unfold OwnV; rw [List.length_set]; exact g1
  · by_cases e : j = i
    · subst e
      rw [gt_set_eq _ _ _ (by omega), gt_set_eq _ _ _ hi]
      exact .inr ⟨hy, Ints.mono hu hfr⟩
    · rw [gt_set_ne _ _ _ _ e, gt_set_ne _ _ _ _ e]
      exact (h4 i hi).imp id (fun ⟨a, b⟩ => ⟨a, Ints.mono b hfr⟩)

/-- the struct behind a pointer to a sequence: the presentation, the table -/
structure SeqAt (B : Nat) (bad : Nat → Prop) (w : World) (sb gb : Nat) (pv : Value) (n : Nat) (b : List (List Int)) : Prop where
  sB : B ≤ sb
  ne : sb ≠ gb
  slt : sb < w.heap.size
  c0 : w.cell? ⟨sb, 0, none⟩ = some pv
  c1 : w.cell? ⟨sb, 1, none⟩ = some (.slice (some ⟨gb, 0, none⟩) n n)
  tab : TabAt B (fun k => k = sb ∨ bad k) w gb n b

theorem SeqAt.kept {B sb gb n : Nat} {pv : Value} {bad bad' : Nat → Prop} {w w' : World} {b : List (List Int)} (h : SeqAt B bad w sb gb pv n b) (hs : w.heap.size ≤ w'.heap.size) (hb : ∀ k, k < w.heap.size → (k = gb ∨ k = sb ∨ ¬ bad k) → w'.heap[k]? = w.heap[k]?)
    (hbad : ∀ k, k < w.heap.size → bad' k → bad k) : SeqAt B bad' w' sb gb pv n b := by
  have e := hb sb h.slt (.inr (.inl rfl))
  exact ⟨h.sB, h.ne, Nat.lt_of_lt_of_le h.slt hs, (World.cell?_of_block (w := w) e).trans h.c0, (World.cell?_of_block (w := w) e).trans h.c1,
    h.tab.kept hs (fun k hk h2 => hb k hk (h2.elim .inl (fun h3 => .inr (.inr (fun h4 => h3 (.inr h4)))))) (fun k hk h2 => h2.imp id (hbad k hk))⟩
theorem SeqAt.ext {B sb gb n : Nat} {pv : Value} {bad : Nat → Prop} {w w' : World} {b : List (List Int)} (h : SeqAt B bad w sb gb pv n b) (hg : Ext w w') : SeqAt B bad w' sb gb pv n b :=
  h.kept hg.size (fun k hk _ => hg.block k hk (by simp)) (fun _ _ h => h)
theorem SeqAt.put {B sb gb n : Nat} {pv : Value} {bad : Nat → Prop} {w : World} {b : List (List Int)} {u : Value} {y : List Int} (h : SeqAt B bad w sb gb pv n b) (j : Nat) (hu : Ints (fun k => k ≠ gb ∧ ¬ (k = sb ∨ bad k)) w u y) (hy : y ≠ []) :
    SeqAt B bad (w.setCell ⟨gb, j, none⟩ u) sb gb pv n (b.set j y) ∧ w.grownBy (w.setCell ⟨gb, j, none⟩ u) (some gb) := by
  obtain ⟨h1, h2⟩ := h.tab.put j hu hy
  have e : (w.setCell ⟨gb, j, none⟩ u).heap[sb]? = w.heap[sb]? := Below.heap_setCell _ _ _ _ (by simpa using h.ne)
  exact ⟨⟨h.sB, h.ne, by simpa [World.setCell] using h.slt, (World.cell?_of_block (w := w) e).trans h.c0, (World.cell?_of_block (w := w) e).trans h.c1, h1⟩, h2⟩

end Go.Proofs.YtldheeicjnncoaaGreat
namespace Go.Proofs.YtldheeicjnncoaaGreat
open Go.RowKit

/-- make([][]int64, n), as a table -/
theorem wp_make_tab {ops : Array Oper} {rest : List Oper} {o : Oper} {a : Act} {Q : Exit → Act → World → Prop} {w : World} (hgd : o.guard = none) (l c : Operand)
    (ho : o.op = Op.makeSlice 25 l c) (base n H : Nat) (hH : w.heap.size = H) (L : Int) (hl : a.eval l = .int .i64 L) (hc : a.eval c = .int .i64 L) (hL : L = n) (hn : n ≤ 2147483648) (hbase : base ≤ H)
    (h : ∀ w', (∀ bad, TabAt base bad w' H n (List.replicate n [])) → Ext w w' → H < w'.heap.size → wpList Tryz.prog ops Q rest (a.put o.dst (.slice (some ⟨H, 0, none⟩) n n)) w') :
    wpList Tryz.prog ops Q (o :: rest) a w := by
  subst hH
  obtain ⟨i0, hi, hz0, hz1, hz2⟩ := info_parts Tryz.infoRow
  refine wpList_make_full w hgd l c 25 ho base 24 i0 (.slice none 0 0) 1 und_rows hi hz0 hz1 .i64 .i64 L L n hl hc hL hL (by rw [hz2]; omega) (by unfold maxLen; omega) hbase ?_
  intro w' h1 h2
  refine h w' ?_ h2 (h1.lt w.heap.size rfl).2
  have e : (madeCells (Value.cells (.slice none 0 0)) (n * 1)).toList = List.replicate n (Value.slice none 0 0) := by
    rw [show Value.cells (.slice none 0 0) = #[.slice none 0 0] from rfl, toList_madeCells_one]; simp
  rw [e] at h1
  refine fun bad => ⟨List.replicate n (.slice none 0 0), by simp, by simp, ?_, fun i hi => .inl ?_⟩
  · unfold OwnV; rw [List.length_replicate]; exact h1
  · simp [gt, hi]

set_option maxHeartbeats 400000 in
theorem newSequence_ok (P : Pr) (w : World) (p : Value) (Sp : Nat → Prop) (bad : Nat → Prop) (hp : PresP Sp w p P) (hn : P.orders.length ≤ 6) :
    Calls Tryz.prog 200 #[p] w (Ret w fun w' v => ∃ sb gb, v = .pointer (some ⟨sb, 0, none⟩) ∧ SeqAt w.heap.size bad w' sb gb p P.orders.length (List.replicate P.orders.length [])) := by
  obtain ⟨pb, po, rfl⟩ := hp.shape
  obtain ⟨ao, capo, hco0, hoi⟩ := hp.ordAt
  go_enter Tryz.func200, Tryz.ntmps200
  go_wp2_with (at_make; refine wp_make_tab rfl _ _ rfl w.heap.size P.orders.length w.heap.size rfl _ rfl rfl rfl (by omega) (Nat.le_refl _) ?_; intro w1 hT1 hg1 hlt1)
  go_ret
  have hga : Ext w1 (w1.alloc (.cells #[.pointer (some ⟨pb, po, none⟩), .slice (some ⟨w.heap.size, 0, none⟩) P.orders.length P.orders.length] 228)) := World.grownBy_alloc _ _ _
  refine ⟨_, rfl, grown_trans hg1 hga, w1.heap.size, w.heap.size, rfl, by omega, by omega, by simp, ?_, ?_, (hT1 _).ext hga⟩
  · rw [World.cell?_alloc_at _ _ _ _ rfl]; rfl
  · rw [World.cell?_alloc_at _ _ _ _ rfl]; rfl

/-- what may be done to an element by elements of a table from the left -/
def SiftΦ (P : Pr) (b : List (List Int)) (Φ : List Int → Prop) : Prop :=
  ∀ d y, d < P.orders.length → T P d y → gt y d ≠ 0 → gt b d ≠ [] → Φ y → Φ (rMul P (pw P (gt b d) (gt P.orders d - gt y d).toNat) y)

set_option maxRecDepth 100000 in
set_option maxHeartbeats 1000000 in
theorem sift_ok (P : Pr) (G : Grp P) (w : World) (sb gb B : Nat) (p xv : Value) (X : List Int) (b : List (List Int)) (Sp Sx bad : Nat → Prop) (hp : PresP Sp w p P) (hs : SeqAt B bad w sb gb p P.orders.length b)
    (htab : ∀ d, d < P.orders.length → gt b d ≠ [] → T P d (gt b d) ∧ gt (gt b d) d = 1) (hx : Ints Sx w xv X) (hX : Vec P.orders X) :
    Calls Tryz.prog 285 #[.pointer (some ⟨sb, 0, none⟩), xv] w (Ret w fun w' v => ∃ Y, Ints (fun k => Sx k ∨ w.heap.size ≤ k) w' v Y ∧ Vec P.orders Y ∧ (dep Y < P.orders.length → gt b (dep Y) = []) ∧ ∀ Φ, SiftΦ P b Φ → Φ X → Φ Y) := by
  have hP := G.v
  have hn6 := hP.n6
  have hlX : X.length = P.orders.length := hX.1
  obtain ⟨pb, po, rfl⟩ := hp.shape
  obtain ⟨ao, capo, hco0, hoi⟩ := hp.ordAt
  have HCO := Lib.hid hco0; clear hco0
  have HT := Lib.hid htab; clear htab
  go_enter Tryz.func285, Tryz.ntmps285
  go_wp2_with fail
  refine Calls.mono (depthOf_ok xv X w Sx hx) ?_
  rintro e0 w0 ⟨rfl, rfl⟩
  go_wp2
  go_loopw [1, 5] (fun xv dv wr => ∃ Y, dv = .int .i64 (dep Y) ∧ Vec P.orders Y ∧ Ext w wr ∧ Ints (fun k => Sx k ∨ w.heap.size ≤ k) wr xv Y ∧ Hid (∀ Φ, SiftΦ P b Φ → Φ X → Φ Y)) (fun _ dv _ => P.orders.length - (intOf dv).toNat)
  case atStart => exact ⟨X, rfl, hX, Ext.refl _, Ints.sub hx (fun k hk _ => .inl hk), Lib.hid (fun _ _ h => h)⟩
  case round =>
    obtain ⟨Y, rfl, hY, hg, hI, hΦ⟩ := hrel
    have hlY : Y.length = P.orders.length := hY.1
    obtain ⟨ay, capy, hv, _, _⟩ := hI.shape
    rw [hlY] at hv
    subst hv
    have hsr := hs.ext hg
    have hc0 := hsr.c0
    have hc1 := hsr.c1
    have HY := Lib.hid hY; clear hY
    by_cases hlt : dep Y < P.orders.length
    · have hltY : (dep Y : Int) < P.orders.length := by omega
      obtain ⟨_, hcc⟩ := hsr.tab.at (dep Y) hlt
      rcases hcc with ⟨h0, hcell⟩ | ⟨hne, ab, capb, hcell, hbI⟩
      · have H0 := Lib.hid h0; clear h0
        go_wp2
        go_ret
        exact ⟨_, rfl, hg, Y, hI, HY.out, fun _ => H0.out, hΦ.out⟩
      · have hy0 := dep_ne (x := Y) (by omega)
        have hTb := HT.out (dep Y) hlt hne
        have ho := hP.ord7 (dep Y) hlt
        have hyd := HY.out.2 (dep Y) hlt
        obtain ⟨b1, off1, rfl, _, _, hcx⟩ := Ints.at hI (dep Y) (by omega)
        obtain ⟨b2, off2, hao, _, _, hcord⟩ := Ints.at (hoi.ext hg) (dep Y) hlt
        subst hao
        have hco := hg.cell HCO.out (by simp)
        have hwk : IntKind.i64.wrap (gt P.orders (dep Y) - gt Y (dep Y)) = gt P.orders (dep Y) - gt Y (dep Y) := IntWalk.i64_in _ (by omega)
        obtain ⟨d, hd⟩ : ∃ d, d = dep Y := ⟨_, rfl⟩
        rw [← hd] at hlt hltY hcell hbI hy0 hTb ho hyd hcx hcord hwk hne ⊢
        have hTY : T P d Y := by rw [hd]; exact dep_T HY.out
        have hlc := G.left_clear hlt hTY hTb.1 hTb.2
        have e1 : iPow P (gt b d) (gt P.orders d - gt Y d) = pw P (gt b d) (gt P.orders d - gt Y d).toNat := G.iPow_eq hTb.1.1 _
        have hpv := G.pw_vec hTb.1.1 (gt P.orders d - gt Y d).toNat
        have e2 := G.tv_eq hpv HY.out
        have hV2 := hlc.1.1
        have hz2 : gt (rMul P (pw P (gt b d) (gt P.orders d - gt Y d).toNat) Y) d = 0 := hlc.1.2 d (by omega)
        have hΦ2 : ∀ Φ, SiftΦ P b Φ → Φ X → Φ (rMul P (pw P (gt b d) (gt P.orders d - gt Y d).toNat) Y) := fun Φ h1 h2 => h1 d Y hlt hTY hy0 hne (hΦ.out Φ h1 h2)
        have HA := Lib.hid (And.intro e1 (And.intro e2 (And.intro hV2 (And.intro hz2 (And.intro hΦ2 (And.intro hpv hlc)))))); clear e1 e2 hV2 hz2 hΦ2 hpv hlc hTY hy0
        have HD := Lib.hid hd; clear hd hne
        have hl1 : (iPow P (gt b d) (gt P.orders d - gt Y d)).length ≤ 6 := by rw [HA.out.1, HA.out.2.2.2.2.2.1.1]; omega
        have hvp : Vec P.orders (iPow P (gt b d) (gt P.orders d - gt Y d)) := by rw [HA.out.1]; exact HA.out.2.2.2.2.2.1
        have HL := Lib.hid (And.intro hl1 (And.intro hvp (And.intro hTb (And.intro ho hyd)))); clear hl1 hvp hTb ho hyd
        have hpr := hp.ext hg
        have e1 : ∀ w', Ext wr w' → w'.cell? ⟨sb, 0, none⟩ = some (.pointer (some ⟨pb, po, none⟩)) := fun w' h => h.cell hc0 (by simp)
        have e2 : ∀ w', Ext wr w' → w'.cell? ⟨sb, 1, none⟩ = some (.slice (some ⟨gb, 0, none⟩) P.orders.length P.orders.length) := fun w' h => h.cell hc1 (by simp)
        have e3 : ∀ w', Ext wr w' → w'.cell? ⟨gb, d, none⟩ = some (.slice (some ab) (gt b d).length capb) := fun w' h => h.cell hcell (by simp)
        have e4 : ∀ w', Ext wr w' → w'.cell? ⟨pb, po, none⟩ = some (.slice (some ⟨b2, off2, none⟩) P.orders.length capo) := fun w' h => h.cell hco (by simp)
        have e5 : ∀ w', Ext wr w' → w'.cell? ⟨b2, off2 + d, none⟩ = some (.int .i64 (gt P.orders d)) := fun w' h => h.cell hcord (by simp)
        have e6 : ∀ w', Ext wr w' → w'.cell? ⟨b1, off1 + d, none⟩ = some (.int .i64 (gt Y d)) := fun w' h => h.cell hcx (by simp)
        have q1 : (d : Int) < P.orders.length := by omega
        have q2 : (0 : Int) ≤ d := by omega
        go_wp2
        go_region_held3 (fun w' => Ext wr w') (first | exact grown_drew _ _ | assumption)
          (first
            | (go_at_call 192; refine Calls.mono (Calls.rel (w0 := wr) (by assumption) (power_ok P hP _ _ _ (gt b d) _ Any Any (PresP.sub (PresP.ext hpr (by assumption)) (fun _ _ _ => trivial)) (Ints.sub (Ints.ext hbI (by assumption)) (fun _ _ _ => trivial)) HL.out.2.2.1.1.1 (by have := HL.out.2.2.2.1; have := HL.out.2.2.2.2; omega))) ?_; rintro eA wA ⟨vA, rfl, hgA, hsA, hOA⟩; have hOA2 := hOA.ints (by have := HL.out.1; omega))
            | (go_at_call 253; refine Calls.mono (Calls.rel (w0 := wr) (by assumption) (multiply_ok P hP _ _ _ _ _ Y Any Any Any (PresP.sub (PresP.ext hpr (by assumption)) (fun _ _ _ => trivial)) hOA2 (Ints.sub (Ints.ext hI (by assumption)) (fun _ _ _ => trivial)) HL.out.2.1 HY.out)) ?_; rintro eB wB ⟨vB, rfl, hgB, hsB, hOB⟩))
        rw [HA.out.1, HA.out.2.1] at hOB
        have hsz : w.heap.size ≤ wA.heap.size := Nat.le_trans hg.size hsB
        have hIB : Ints (fun k => Sx k ∨ w.heap.size ≤ k) wB vB (rMul P (pw P (gt b d) (gt P.orders d - gt Y d).toNat) Y) := ints_of_own hOB (by rw [HA.out.2.2.1.1]; omega) (fun k hk => .inr (Nat.le_trans hsz (hOB.lt k hk).1))
        obtain ⟨Z, hZ⟩ : ∃ Z, Z = rMul P (pw P (gt b d) (gt P.orders d - gt Y d).toNat) Y := ⟨_, rfl⟩
        rw [← hZ] at hIB
        have HZ := Lib.hid hZ; clear hZ hOB
        have hlZ : Z.length = P.orders.length := by rw [HZ.out]; exact HA.out.2.2.1.1
        obtain ⟨az, capz, hv, _, _⟩ := hIB.shape
        rw [hlZ] at hv
        subst hv
        obtain ⟨b3, off3, rfl, _, _, hcz⟩ := Ints.at hIB d (by omega)
        have hz0 : gt Z d = 0 := by rw [HZ.out]; exact HA.out.2.2.2.1
        rw [hz0] at hcz
        have hdl : dep Y < dep Z := by
          have hTZ : T P (d + 1) Z := by rw [HZ.out]; exact HA.out.2.2.2.2.2.2.1
          have := HD.out
          rcases Nat.lt_or_ge (dep Y) (dep Z) with h | h
          · exact h
          · exact absurd (hTZ.2 (dep Z) (by omega)) (dep_ne (by omega))
        have HF := Lib.hid (And.intro hz0 hdl); clear hz0 hdl
        clear e1 e2 e3 e4 e5 e6 hcx hcord hco hcell hc0 hc1
        go_wp2_with (go_at_call 286; refine Calls.mono (depthOf_ok _ Z wB _ hIB) ?_; rintro eD wD ⟨rfl, rfl⟩)
        go_roundw
        case rel => exact ⟨Z, rfl, by rw [HZ.out]; exact HA.out.2.2.1, grown_trans hg hgB, hIB, by rw [HZ.out]; exact Lib.hid HA.out.2.2.2.2.1⟩
        case measure => have := HF.out.2; have := HD.out; simp [intOf]; omega
    · have hd : dep Y = P.orders.length := by have := dep_le Y; omega
      go_wp2
      go_ret
      exact ⟨_, rfl, hg, Y, hI, HY.out, fun h => absurd h hlt, hΦ.out⟩

end Go.Proofs.YtldheeicjnncoaaGreat
namespace Go.Proofs.YtldheeicjnncoaaGreat

/-- how many places among the first k are empty -/
def miss (b : List (List Int)) : Nat → Nat
  | 0 => 0
  | k + 1 => miss b k + (if gt b k = [] then 1 else 0)

theorem miss_le (b : List (List Int)) (k : Nat) : miss b k ≤ k := by
  induction k with
  | zero => exact Nat.le_refl _
  | succ k ih => simp only [miss]; split <;> omega

theorem miss_set {b : List (List Int)} {d : Nat} {z : List Int} (hb : gt b d = []) (hz : z ≠ []) : ∀ k, k ≤ b.length → miss (b.set d z) k + (if d < k then 1 else 0) = miss b k := by
  intro k
  induction k with
  | zero => intro _; simp [miss]
  | succ k ih =>
    intro hk
    have ih := ih (by omega)
    simp only [miss]
    by_cases e : d = k
    · subst e
      rw [gt_set_eq _ _ _ (by omega), if_neg hz, hb]
      simp at ih ⊢
      exact ih
    · rw [gt_set_ne _ _ _ _ e]
      by_cases h1 : d < k
      · rw [if_pos h1] at ih; rw [if_pos (show d < k + 1 by omega)]; omega
      · rw [if_neg h1] at ih; rw [if_neg (show ¬ d < k + 1 by omega)]; omega

def comR (P : Pr) (x z : List Int) : List Int := rMul P (rInv P (rMul P z x)) (rMul P x z)

/-- the commutators with the entries of the first k places -/
def coms (P : Pr) (b : List (List Int)) (z : List Int) : Nat → List (List Int)
  | 0 => []
  | k + 1 => coms P b z k ++ (if gt b k = [] then [] else [comR P (gt b k) z])

theorem coms_len (P : Pr) (b : List (List Int)) (z : List Int) (k : Nat) : (coms P b z k).length ≤ k := by
  induction k with
  | zero => exact Nat.le_refl _
  | succ k ih => simp only [coms]; split <;> simp <;> omega

theorem mem_coms {P : Pr} {b : List (List Int)} {z x : List Int} {k : Nat} : x ∈ coms P b z k ↔ ∃ e, e < k ∧ gt b e ≠ [] ∧ x = comR P (gt b e) z := by
  induction k with
  | zero => simp [coms]
  | succ k ih =>
    simp only [coms, List.mem_append, ih]
    constructor
    · rintro (⟨e, h1, h2, h3⟩ | h)
      · exact ⟨e, by omega, h2, h3⟩
      · split at h
        · simp at h
        · rename_i hk
          simp at h
          exact ⟨k, by omega, hk, h⟩
    · rintro ⟨e, h1, h2, h3⟩
      rcases Nat.lt_succ_iff_lt_or_eq.1 h1 with h | h
      · exact .inl ⟨e, h, h2, h3⟩
      · subst h; right; rw [if_neg h2]; simp [h3]

section
variable {P : Pr} (G : Grp P)
include G

theorem Grp.sift_add {Q : List Int → Prop} {b : List (List Int)} {q : List (List Int)} {R : List Int → Prop} {X Y : List Int} (A : AddInv P Q (gt b) (X :: q) R) (hΦ : ∀ Φ, SiftΦ P b Φ → Φ X → Φ Y) : ∃ R', AddInv P Q (gt b) (Y :: q) R' := by
  refine hΦ (fun y => ∃ R, AddInv P Q (gt b) (y :: q) R) ?_ ⟨R, A⟩
  rintro d y hd hT h0 hb ⟨R, A⟩
  obtain ⟨_, h1, h2⟩ := A.tab d hd hb
  have hlc := G.left_clear hd hT h1 h2
  exact ⟨_, addInv_sift A hd hT h0 hb hlc.1 (fun K S g1 g2 => (hlc.2 K S g1).1 g2) (fun K S g1 g2 => (hlc.2 K S g1).2 g2)⟩

theorem Grp.add_step {Q : List Int → Prop} {b : List (List Int)} {q : List (List Int)} {R : List Int → Prop} {y : List Int} (A : AddInv P Q (gt b) (y :: q) R) {d : Nat} (hd : d < P.orders.length) (hT : T P d y) (hb : gt b d = []) (hlen : b.length = P.orders.length)
    (k : Int) (hk0 : 0 ≤ k) (hk : (k * gt y d) % gt P.orders d = 1) :
    ∃ R', AddInv P Q (gt (b.set d (pw P y k.toNat))) (q ++ [y] ++ [pw P (pw P y k.toNat) (gt P.orders d).toNat] ++ coms P b (pw P y k.toNat) P.orders.length) R' := by
  obtain ⟨hz, hz1⟩ := G.lead_one hd hT k hk0 hk
  refine ⟨_, G.addInv_insert A hd hT hb hz hz1 (fun K S h => S.pw h _) (fun e he => ?_) (fun x hx => ?_) (fun x hx => ?_) (fun e he hbe => .inl ?_)⟩
  · by_cases h : e = d
    · subst h; rw [if_pos rfl, gt_set_eq _ _ _ (by omega)]
    · rw [if_neg h, gt_set_ne _ _ _ _ (fun h2 => h h2.symm)]
  · simp only [List.mem_append, List.mem_singleton] at hx
    rcases hx with ((h | h) | h) | h
    · exact .inl h
    · exact .inr (.inl h)
    · exact .inr (.inr (.inr (.inl h)))
    · obtain ⟨e, h1, h2, h3⟩ := mem_coms.1 h
      exact .inr (.inr (.inr (.inr ⟨e, h1, h2, .inl h3⟩)))
  · simp only [List.mem_append, List.mem_singleton]
    rcases hx with h | h | h
    · exact .inl (.inl (.inl h))
    · exact .inl (.inl (.inr h))
    · exact .inl (.inr h)
  · simp only [List.mem_append]
    exact .inr (mem_coms.2 ⟨e, he, hbe, rfl⟩)

end

end Go.Proofs.YtldheeicjnncoaaGreat
namespace Go.Proofs.YtldheeicjnncoaaGreat
open Go.RowKit

/-- a sequence by depths with leading entries 1 -/
def SeqOk (P : Pr) (U : List (List Int)) : Prop :=
  (∀ z ∈ U, Vec P.orders z ∧ dep z < P.orders.length ∧ gt z (dep z) = 1) ∧ ∀ i j, i < j → j < U.length → dep (gt U i) < dep (gt U j)

structure RepTo (P : Pr) (U : List (List Int)) (X : List Int) (i : Nat) (y : List Int) : Prop where
  vec : Vec P.orders y
  zer : ∀ j, j < i → gt y (dep (gt U j)) = 0
  cos : ∀ K, Sub P K → (∀ z ∈ U, K z) → K (rMul P (rInv P X) y)
  old : ∀ k, (∀ z ∈ U, k < dep z) → gt y k = gt X k

section
variable {P : Pr} (G : Grp P)
include G

theorem Grp.repTo_zero {U : List (List Int)} {X : List Int} (hX : Vec P.orders X) : RepTo P U X 0 X :=
  ⟨hX, fun j hj => by omega, fun K S _ => by rw [G.inv_mul hX]; exact S.one, fun _ _ => rfl⟩

theorem Grp.repTo_step {U : List (List Int)} {X y : List Int} {i : Nat} (hU : SeqOk P U) (hX : Vec P.orders X) (hi : i < U.length) (h : RepTo P U X i y) :
    RepTo P U X i (rMul P y (gt U i)) ∧ gt (rMul P y (gt U i)) (dep (gt U i)) = (gt y (dep (gt U i)) + 1) % gt P.orders (dep (gt U i)) := by
  obtain ⟨h1, h2, h3⟩ := hU.1 _ (gtMem hi)
  have hr := G.right (Nat.le_of_lt h2) h.vec (dep_T h1)
  refine ⟨⟨G.mulV h.vec h1, fun j hj => ?_, fun K S hK => ?_, fun k hk => ?_⟩, ?_⟩
  · rw [hr.1 _ (hU.2 j i hj hi)]; exact h.zer j hj
  · rw [← G.ass (G.invV hX) h.vec h1]; exact S.mul _ _ (h.cos K S hK) (hK _ (gtMem hi))
  · rw [hr.1 k (hk _ (gtMem hi))]; exact h.old k hk
  · rw [hr.2 h2, h3]

omit G in
theorem repTo_next {U : List (List Int)} {X y : List Int} {i : Nat} (h : RepTo P U X i y) (h0 : gt y (dep (gt U i)) = 0) : RepTo P U X (i + 1) y :=
  ⟨h.vec, fun j hj => by
    rcases Nat.lt_succ_iff_lt_or_eq.1 hj with h1 | h1
    · exact h.zer j h1
    · rw [h1]; exact h0, h.cos, h.old⟩

end

/-- how often a factor is still to be put -/
def lft (o e : Int) : Nat := if e = 0 then 0 else (o - e).toNat

theorem lft_step {o e : Int} (h0 : 0 ≤ e) (h1 : e < o) (hne : e ≠ 0) : lft o ((e + 1) % o) < lft o e := by
  unfold lft
  rw [if_neg hne]
  by_cases h : e + 1 = o
  · rw [h, Int.emod_self, if_pos rfl]; omega
  · rw [Int.emod_eq_of_lt (by omega) (by omega), if_neg (by omega)]; omega

set_option maxRecDepth 100000 in
set_option maxHeartbeats 2000000 in
theorem representative_ok (P : Pr) (G : Grp P) (w : World) (p uv xv : Value) (U : List (List Int)) (X : List Int) (Sp Su Sx : Nat → Prop) (hp : PresP Sp w p P) (hu : Rows2 Su w uv U) (hU : SeqOk P U) (hl : U.length ≤ 100) (hx : Ints Sx w xv X) (hX : Vec P.orders X) :
    Calls Tryz.prog 224 #[p, uv, xv] w (Ret w fun w' v => ∃ Y, Own w.heap.size w' v Y ∧ RepTo P U X U.length Y) := by
  have hP := G.v
  have hn6 := hP.n6
  have hlX : X.length ≤ 6 := by rw [hX.1]; omega
  obtain ⟨pb, po, rfl⟩ := hp.shape
  obtain ⟨au, capu, rfl, _, _⟩ := Sl.shape hu
  have hUz : ∀ z ∈ U, dep z < z.length := fun z hz => by have := hU.1 z hz; rw [this.1.1]; exact this.2.1
  have HU := Lib.hid (And.intro hU hX); clear hU hX
  go_enter Tryz.func224, Tryz.ntmps224
  go_wp2_with fail
  refine Calls.mono (clone_ok w xv X Sx hx (by omega)) ?_
  rintro e0 w0 ⟨ov, rfl, hg0, hO0⟩
  go_wp2_with fail
  refine Calls.mono (pivots_ok _ U w0 Su (Rows2.ext hu hg0) hUz (by omega)) ?_
  rintro e1 w1 ⟨pv, rfl, hg1, hV1⟩
  have hg01 := grown_trans hg0 hg1
  have hO1 := hO0.ext0 hg1
  have hob : ∀ k, ov.ownBlock = some k → w.heap.size ≤ k ∧ k < w0.heap.size := fun k hk => ⟨(hO0.lt k hk).1, (hO0.lt k hk).2⟩
  have hpvs : ∃ az capz, pv = .slice az U.length capz := by
    rcases hV1.form with ⟨h1, h2⟩ | ⟨g, cp, h1, _⟩
    · have h3 : U.length = 0 := by unfold depV at h2; rw [List.map_eq_nil_iff] at h2; rw [h2]; rfl
      exact ⟨none, 0, by rw [h1, h3]⟩
    · exact ⟨_, _, by rw [h1]; unfold depV; rw [List.length_map]⟩
  obtain ⟨ap, capp, rfl⟩ := hpvs
  have HOB := Lib.hid hob; clear hob
  go_wp2
  go_loopw [15] (fun iv wr => ∃ (i : Nat) (Y : List Int), iv = .int .i64 i ∧ i ≤ U.length ∧ Ext w wr ∧ Own w.heap.size wr ov Y ∧ OwnV w0.heap.size 3 wr (.slice ap U.length capp) (depV U) ∧ Hid (RepTo P U X i Y)) (fun iv _ => U.length - (intOf iv).toNat)
  case atStart => exact ⟨0, X, rfl, by omega, hg01, hO1, hV1, Lib.hid (G.repTo_zero HU.out.2)⟩
  case round =>
    obtain ⟨i, Y, rfl, hi, hg, hO, hV, hR⟩ := hrel
    clear hO0 hO1 hV1
    by_cases hlt : i < U.length
    · have hlt' : (i : Int) < U.length := by omega
      have hdi : gt (depV U) i = .int .i64 (dep (gt U i)) := by unfold depV; rw [gt_map _ _ _ hlt]
      have hpf : ∃ g, ap = some ⟨g, 0, none⟩ := by
        rcases hV.form with ⟨h1, h2⟩ | ⟨g, cp, h1, _⟩
        · unfold depV at h2; rw [List.map_eq_nil_iff] at h2; rw [h2] at hlt; simp at hlt
        · simp only [Value.slice.injEq] at h1; exact ⟨g, h1.1⟩
      obtain ⟨gp, rfl⟩ := hpf
      have hcp := hV.cell i (by unfold depV; rw [List.length_map]; exact hlt)
      rw [hdi] at hcp
      clear hdi
      obtain ⟨d, hd⟩ : ∃ d, d = dep (gt U i) := ⟨_, rfl⟩
      rw [← hd] at hcp
      have hdn : d < P.orders.length := by rw [hd]; exact (HU.out.1.1 _ (gtMem hlt)).2.1
      have ho := hP.ord7 d hdn
      have HD := Lib.hid hd; clear hd
      go_wp2
      go_loopg [20] (lft (gt P.orders d) (gt Y d)) (fun gk _ wr => ∃ Y, gk = lft (gt P.orders d) (gt Y d) ∧ Ext w wr ∧ Own w.heap.size wr ov Y ∧ OwnV w0.heap.size 3 wr (.slice (some ⟨gp, 0, none⟩) U.length capp) (depV U) ∧ Hid (RepTo P U X i Y))
      case atStart => exact ⟨Y, rfl, hg, hO, hV, hR⟩
      case round =>
        clear hO hV hR hg
        obtain ⟨Y, hgk, hg, hO, hV, hR⟩ := hrel
        have hYV := hR.out.vec
        have hyd := hYV.2 d hdn
        have hYi := hO.ints (by rw [hYV.1]; omega)
        obtain ⟨ax, capx, hvx, _, _⟩ := hYi.shape
        rw [hYV.1] at hvx
        subst hvx
        obtain ⟨bx, ox, rfl, _, _, hcx⟩ := Ints.at hYi d (by rw [hYV.1]; exact hdn)
        have hdn' : (d : Int) < P.orders.length := by omega
        by_cases hy : gt Y d = 0
        · have hR2 : Hid (RepTo P U X (i + 1) Y) := Lib.hid (repTo_next hR.out (by rw [← HD.out]; exact hy))
          have hb : (gt Y d != 0) = false := by simp [hy]
          have HY := Lib.hid hYV; clear hYV hy hgk
          go_wp2
          go_roundw
          case rel => exact ⟨i + 1, Y, by go_num, by omega, hg, hO, hV, hR2⟩
          case measure => simp [intOf]; omega
        · have hb : (gt Y d != 0) = true := by simp [hy]
          obtain ⟨hst1, hst2⟩ := G.repTo_step HU.out.1 HU.out.2 hlt hR.out
          rw [← HD.out] at hst2
          have hlf := lft_step hyd.1 hyd.2 hy
          rw [← hst2, ← hgk] at hlf
          have hUV := (HU.out.1.1 _ (gtMem hlt)).1
          have htv : tv P Y (gt U i) = rMul P Y (gt U i) := G.tv_eq hYV hUV
          obtain ⟨bu, ou, a2, cap2, hau, hbu, hbul, hcu, hui⟩ := Rows2.at hu i hlt
          subst hau
          have hcur := hg.cell hcu (by simp)
          have HS := Lib.hid (And.intro hst1 (And.intro hlf htv)); clear hst1 hlf htv hst2 hgk hy hcu
          have hYV2 := Lib.hid hYV
          have hfr : ∀ (S : Nat → Prop) k, S k → k < w.heap.size → Off (Value.slice (some ⟨bx, ox, none⟩) P.orders.length capx).ownBlock k ∧ k < wr.heap.size ∧ wr.heap[k]? = w.heap[k]? := fun S k _ hlt => ⟨fun e => by have := (HOB.out k e).1; omega, Nat.lt_of_lt_of_le hlt hg.size, hg.block k hlt (by simp)⟩
          go_wp2_with fail
          refine Calls.mono (timesVector_ok P hP w.heap.size wr _ _ _ Y (gt U i) (hp.mono (hfr Sp)) hO hYV2.out (Ints.mono hui (hfr Su)) hUV) ?_
          rintro eM wM ⟨vM, rfl, hgM, rfl, hOM⟩
          rw [HS.out.2.2] at hOM
          have hgwM : Ext w wM := grown_own hg hgM (fun j hj hlt => by have := (HOB.out j hj).1; omega)
          have hVM := hV.kept hgM (.inr (fun e => by
            have h1 := (HOB.out gp (by rw [← e]; rfl)).2
            have h2 := (hV.lt gp rfl).1
            omega))
          go_wp2
          go_roundg (lft (gt P.orders d) (gt (rMul P Y (gt U i)) d))
          case measure => exact HS.out.2.1
          case rel => exact ⟨_, rfl, hgwM, hOM, hVM, Lib.hid HS.out.1⟩
    · have hie : i = U.length := by omega
      subst hie
      go_wp2
      go_ret
      exact ⟨_, rfl, hg, Y, hO, hR.out⟩

end Go.Proofs.YtldheeicjnncoaaGreat
namespace Go.Proofs.YtldheeicjnncoaaGreat

/-- the entries of a table at the places m .. m+k-1 that are not empty -/
def sq (r : Nat → List Int) (k m : Nat) : List (List Int) := (List.range' m k).filterMap (fun d => if r d = [] then none else some (r d))

theorem sq_zero (r : Nat → List Int) (m : Nat) : sq r 0 m = [] := rfl
theorem sq_succ (r : Nat → List Int) (k m : Nat) : sq r (k + 1) m = (if r m = [] then [] else [r m]) ++ sq r k (m + 1) := by
  unfold sq
  rw [List.range'_succ, List.filterMap_cons]
  by_cases h : r m = [] <;> simp [h]
theorem sq_all (r : Nat → List Int) (n : Nat) : seqOf n r = sq r n 0 := by unfold seqOf sq; rw [List.range_eq_range']
theorem sq_congr {r r' : Nat → List Int} (k m : Nat) (h : ∀ d, m ≤ d → d < m + k → r d = r' d) : sq r k m = sq r' k m := by
  induction k generalizing m with
  | zero => rfl
  | succ k ih => rw [sq_succ, sq_succ, h m (by omega) (by omega), ih (m + 1) (fun d h1 h2 => h d (by omega) (by omega))]
theorem mem_sq {r : Nat → List Int} {k m : Nat} {z : List Int} : z ∈ sq r k m ↔ ∃ e, m ≤ e ∧ e < m + k ∧ r e ≠ [] ∧ z = r e := by
  induction k generalizing m with
  | zero =>
    rw [sq_zero]
    constructor
    · intro h; cases h
    · rintro ⟨e, h1, h2, _⟩; omega
  | succ k ih =>
    rw [sq_succ, List.mem_append, ih]
    constructor
    · rintro (h | ⟨e, h1, h2, h3⟩)
      · split at h
        · cases h
        · rename_i hm
          simp at h
          exact ⟨m, by omega, by omega, hm, h⟩
      · exact ⟨e, by omega, by omega, h3⟩
    · rintro ⟨e, h1, h2, h3, h4⟩
      rcases Nat.lt_or_ge m e with h | h
      · exact .inr ⟨e, by omega, by omega, h3, h4⟩
      · have : e = m := by omega
        subst this
        left; rw [if_neg h3]; simp [h4]
theorem sq_len (r : Nat → List Int) (k m : Nat) : (sq r k m).length ≤ k := by
  induction k generalizing m with
  | zero => exact Nat.le_refl _
  | succ k ih => rw [sq_succ, List.length_append]; have := ih (m + 1); split <;> simp <;> omega

structure CanInv (P : Pr) (H : List Int → Prop) (b r : Nat → List Int) (m : Nat) : Prop where
  nil : ∀ e, m ≤ e → e < P.orders.length → (r e = [] ↔ b e = [])
  mem : ∀ e, m ≤ e → e < P.orders.length → r e ≠ [] → H (r e) ∧ T P e (r e) ∧ gt (r e) e = 1
  red : ∀ e e', m ≤ e → e < e' → e' < P.orders.length → r e ≠ [] → r e' ≠ [] → gt (r e) e' = 0

section
variable {P : Pr} (G : Grp P)
include G

omit G in
theorem CanInv.dep {H : List Int → Prop} {b r : Nat → List Int} {m e : Nat} (h : CanInv P H b r m) (h1 : m ≤ e) (h2 : e < P.orders.length) (h3 : r e ≠ []) : dep (r e) = e := by
  obtain ⟨_, hT, h0⟩ := h.mem e h1 h2 h3
  exact dep_lead h2 hT (by rw [h0]; decide)

omit G in
theorem CanInv.sorted {H : List Int → Prop} {b r : Nat → List Int} {m0 : Nat} (h : CanInv P H b r m0) : ∀ k m, m0 ≤ m → m + k = P.orders.length → (sq r k m).Pairwise (fun x y => Go.Proofs.YtldheeicjnncoaaGreat.dep x < Go.Proofs.YtldheeicjnncoaaGreat.dep y) := by
  intro k
  induction k with
  | zero => intro m _ _; exact List.Pairwise.nil
  | succ k ih =>
    intro m h0 hm
    rw [sq_succ]
    by_cases hr : r m = []
    · rw [if_pos hr, List.nil_append]; exact ih (m + 1) (by omega) (by omega)
    · rw [if_neg hr, List.singleton_append]
      refine List.Pairwise.cons (fun z hz => ?_) (ih (m + 1) (by omega) (by omega))
      obtain ⟨e, h1, h2, h3, rfl⟩ := mem_sq.1 hz
      rw [h.dep h0 (by omega) hr, h.dep (by omega) (by omega) h3]; omega

omit G in
theorem CanInv.seqOk {H : List Int → Prop} {b r : Nat → List Int} {k m : Nat} (h : CanInv P H b r m) (hm : m + k = P.orders.length) : SeqOk P (sq r k m) := by
  refine ⟨fun z hz => ?_, fun i j hij hj => ?_⟩
  · obtain ⟨e, h1, h2, h3, rfl⟩ := mem_sq.1 hz
    obtain ⟨_, a2, a3⟩ := h.mem e h1 (by omega) h3
    rw [h.dep h1 (by omega) h3]
    exact ⟨a2.1, by omega, a3⟩
  · rw [gt_eq _ i (by omega), gt_eq _ j hj]
    exact List.pairwise_iff_getElem.1 (h.sorted k m (Nat.le_refl _) hm) i j (by omega) hj hij

theorem Grp.can_step {H : List Int → Prop} {b r : Nat → List Int} {d k : Nat} {y : List Int} (I : Ind P H b) (h : CanInv P H b r (d + 1)) (hk : d + 1 + k = P.orders.length) (hb : b d ≠ []) (hy : RepTo P (sq r k (d + 1)) (b d) (sq r k (d + 1)).length y) :
    CanInv P H b (fun e => if e = d then y else r e) d ∧ sq (fun e => if e = d then y else r e) (k + 1) d = y :: sq r k (d + 1) := by
  have hd : d < P.orders.length := by omega
  obtain ⟨m1, m2, m3⟩ := I.mem d hd hb
  have hyne : y ≠ [] := fun e => by have := hy.vec.1; rw [e] at this; simp at this; omega
  have hold : ∀ j, j ≤ d → gt y j = gt (b d) j := fun j hj => hy.old j (fun z hz => by
    obtain ⟨e, h1, h2, h3, rfl⟩ := mem_sq.1 hz
    rw [h.dep h1 (by omega) h3]; omega)
  have hyH : H y := by
    have h1 := hy.cos H I.sub (fun z hz => by
      obtain ⟨e, h1, h2, h3, rfl⟩ := mem_sq.1 hz
      exact (h.mem e h1 (by omega) h3).1)
    have h2 := I.sub.mul _ _ m1 h1
    rwa [← G.ass m2.1 (G.invV m2.1) hy.vec, G.mul_inv m2.1, G.grp.el _ hy.vec] at h2
  have hyT : T P d y := ⟨hy.vec, fun j hj => by rw [hold j (by omega)]; exact m2.2 j hj⟩
  have hy1 : gt y d = 1 := by rw [hold d (Nat.le_refl _)]; exact m3
  have hyz : ∀ e, d < e → e < P.orders.length → r e ≠ [] → gt y e = 0 := fun e h1 h2 h3 => by
    have hz : r e ∈ sq r k (d + 1) := mem_sq.2 ⟨e, by omega, by omega, h3, rfl⟩
    obtain ⟨j, hj, hje⟩ := List.getElem_of_mem hz
    have h4 := hy.zer j hj
    rw [gt_eq _ j hj, hje, h.dep (by omega) h2 h3] at h4
    exact h4
  refine ⟨⟨fun e h1 h2 => ?_, fun e h1 h2 h3 => ?_, fun e e' h1 h2 h3 h4 h5 => ?_⟩, ?_⟩
  · by_cases he : e = d
    · subst he; simp [hyne, hb]
    · rw [if_neg he]; exact h.nil e (by omega) h2
  · by_cases he : e = d
    · subst he; simp only [if_true] ; exact ⟨hyH, hyT, hy1⟩
    · simp only [if_neg he] at h3 ⊢; exact h.mem e (by omega) h2 h3
  · have he' : e' ≠ d := by omega
    simp only [if_neg he'] at h5
    by_cases he : e = d
    · subst he; simp only [if_true]; exact hyz e' h2 h3 h5
    · simp only [if_neg he] at h4 ⊢; exact h.red e e' (by omega) h2 h3 h4 h5
  · rw [sq_succ, if_pos rfl, if_neg hyne, List.singleton_append]
    congr 1
    exact sq_congr k (d + 1) (fun e h1 h2 => by rw [if_neg (by omega)])

omit G in
theorem can_skip {H : List Int → Prop} {b r : Nat → List Int} {d k : Nat} (h : CanInv P H b r (d + 1)) (hb : b d = []) :
    CanInv P H b (fun e => if e = d then [] else r e) d ∧ sq (fun e => if e = d then [] else r e) (k + 1) d = sq r k (d + 1) := by
  refine ⟨⟨fun e h1 h2 => ?_, fun e h1 h2 h3 => ?_, fun e e' h1 h2 h3 h4 h5 => ?_⟩, ?_⟩
  · by_cases he : e = d
    · subst he; simp [hb]
    · rw [if_neg he]; exact h.nil e (by omega) h2
  · by_cases he : e = d
    · subst he; simp at h3
    · simp only [if_neg he] at h3 ⊢; exact h.mem e (by omega) h2 h3
  · have he' : e' ≠ d := by omega
    simp only [if_neg he'] at h5
    by_cases he : e = d
    · subst he; simp at h4
    · simp only [if_neg he] at h4 ⊢; exact h.red e e' (by omega) h2 h3 h4 h5
  · rw [sq_succ, if_pos rfl, if_pos rfl, List.nil_append]
    exact sq_congr k (d + 1) (fun e h1 h2 => by rw [if_neg (by omega)])

theorem Grp.can_end {H : List Int → Prop} {b r : Nat → List Int} (I : Ind P H b) (h : CanInv P H b r 0) : sq r P.orders.length 0 = cseq P H := by
  have hR : Red P H r := ⟨⟨I.sub, fun d hd hr => h.mem d (by omega) hd hr, fun x hx d hd hT h0 hr => I.piv x hx d hd hT h0 ((h.nil d (by omega) hd).1 hr)⟩, fun d e hde he h1 h2 => h.red d e (by omega) hde he h1 h2⟩
  rw [G.cseq_red hR, sq_all]

end

end Go.Proofs.YtldheeicjnncoaaGreat
