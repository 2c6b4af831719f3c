/-
  Plain: what holds while a table by depths grows: each element that was looked at is neutral, waits in the queue, or is led deeper by the table.
-/
import Derived.Test.YtbfbpjkpoepmkaaSSubSeq
namespace Go.Proofs.Ytbfbpjkpoepmkaa

/-- the subgroup that a set of elements generates -/
def genP (P : Pr) (Q : List Int → Prop) (x : List Int) : Prop := ∀ H, Sub P H → (∀ y, Q y → H y) → H x

structure AddInv (P : Pr) (Q : List Int → Prop) (b : Nat → List Int) (q : List (List Int)) (R : List Int → Prop) : Prop where
  tab : ∀ d, d < P.orders.length → b d ≠ [] → R (b d) ∧ T P d (b d) ∧ gt (b d) d = 1
  vec : ∀ x, R x → Vec P.orders x
  que : ∀ x ∈ q, R x
  src : ∀ x, Q x → R x
  step : ∀ x, R x → x = zeros P.orders.length ∨ x ∈ q ∨ ∃ d, d < P.orders.length ∧ T P d x ∧ gt x d ≠ 0 ∧ b d ≠ [] ∧ ∃ x', R x' ∧ T P (d + 1) x' ∧ ∀ K, Sub P K → K (b d) → K x' → K x
  pow : ∀ d, d < P.orders.length → b d ≠ [] → R (pw P (b d) (gt P.orders d).toNat)
  com : ∀ d e, d < e → e < P.orders.length → b d ≠ [] → b e ≠ [] → ∃ c, R c ∧ T P (d + 1) c ∧ ∀ K, Sub P K → K (b e) → K c → K (rConj P (b e) (b d))
  gen : ∀ x, R x → genP P Q x

section
variable {P : Pr} (G : Grp P)
include G

theorem Grp.genP_sub {Q : List Int → Prop} (hQ : ∀ y, Q y → Vec P.orders y) : Sub P (genP P Q) :=
  ⟨fun _ h => h _ G.sub_all hQ, fun _ S _ => S.one, fun _ _ h k _ S hH => S.mul _ _ (h _ S hH) (k _ S hH), fun _ h _ S hH => S.inv _ (h _ S hH)⟩
omit G in
theorem genP_mem {Q : List Int → Prop} {y : List Int} (hy : Q y) : genP P Q y := fun _ _ hH => hH y hy
omit G in
theorem genP_le {Q : List Int → Prop} {H : List Int → Prop} (S : Sub P H) (h : ∀ y, Q y → H y) {x : List Int} (hx : genP P Q x) : H x := hx _ S h

theorem Grp.addInv_start {H : List Int → Prop} {b : Nat → List Int} (I : Ind P H b) {list : List (List Int)} (hl : ∀ x ∈ list, Vec P.orders x) :
    AddInv P (fun x => H x ∨ x ∈ list) b list (fun x => H x ∨ x ∈ list) := by
  have S := I.sub
  refine ⟨fun d hd hb => ?_, ?_, fun x hx => .inr hx, fun x hx => hx, ?_, fun d hd hb => .inl (S.pw (I.mem d hd hb).1 _), fun d e hde he hbd hbe => ?_, fun x hx => genP_mem hx⟩
  · obtain ⟨h1, h2, h3⟩ := I.mem d hd hb
    exact ⟨.inl h1, h2, h3⟩
  · rintro x (h | h)
    · exact S.vec x h
    · exact hl x h
  · rintro x (h | h)
    · by_cases h0 : x = zeros P.orders.length
      · exact .inl h0
      · obtain ⟨d, hd, hT, hx0⟩ := depth_ex (S.vec x h) h0
        have hb := I.piv x h d hd hT hx0
        obtain ⟨m1, m2, m3⟩ := I.mem d hd hb
        have ho := G.v.ord7 d hd
        have hxd := hT.1.2 d hd
        refine .inr (.inr ⟨d, hd, hT, hx0, hb, rMul P (pw P (b d) (gt P.orders d - gt x d).toNat) x, .inl (S.mul _ _ (S.pw m1 _) h), ?_, fun K SK h1 h2 => ?_⟩)
        · refine (G.T_mul (Nat.le_of_lt hd) (G.pw_T (Nat.le_of_lt hd) m2 _) hT).up ?_
          rw [(G.right (Nat.le_of_lt hd) (G.pw_vec m2.1 _) hT).2 hd, G.pw_at hd m2, m3, Int.mul_one, Int.emod_add_emod, show (((gt P.orders d - gt x d).toNat : Nat) : Int) + gt x d = gt P.orders d by omega, Int.emod_self]
        · have h3 := SK.mul _ _ (SK.inv _ (SK.pw h1 (gt P.orders d - gt x d).toNat)) h2
          rwa [← G.ass (G.invV (G.pw_vec m2.1 _)) (G.pw_vec m2.1 _) hT.1, G.inv_mul (G.pw_vec m2.1 _), G.grp.el _ hT.1] at h3
    · exact .inr (.inl h)
  · obtain ⟨m1, m2, m3⟩ := I.mem d (by omega) hbd
    obtain ⟨k1, k2, k3⟩ := I.mem e he hbe
    have hk2 := k2.down (show d + 1 ≤ e by omega)
    refine ⟨_, .inl (S.mul _ _ (S.inv _ (S.mul _ _ m1 k1)) (S.mul _ _ k1 m1)), (G.comm_deep (by omega) m2 hk2).2, fun K SK h1 h2 => ?_⟩
    rw [G.conj_of_comm k2.1 m2.1]
    exact SK.mul _ _ h1 h2

omit G in
/-- one step of sifting, by a power from the left or from the right -/
theorem addInv_sift {Q : List Int → Prop} {b : Nat → List Int} {q : List (List Int)} {R : List Int → Prop} {y y' : List Int} (A : AddInv P Q b (y :: q) R) {d : Nat} (hd : d < P.orders.length) (hT : T P d y) (h0 : gt y d ≠ 0) (hb : b d ≠ [])
    (hy' : T P (d + 1) y') (hK : ∀ K, Sub P K → K (b d) → K y' → K y) (hgen : ∀ K, Sub P K → K (b d) → K y → K y') : AddInv P Q b (y' :: q) (fun x => R x ∨ x = y') := by
  refine ⟨fun e he hbe => ⟨.inl (A.tab e he hbe).1, (A.tab e he hbe).2⟩, ?_, ?_, fun x hx => .inl (A.src x hx), ?_, fun e he hbe => .inl (A.pow e he hbe), fun d e hde he h1 h2 => ?_, ?_⟩
  · rintro x (h | h)
    · exact A.vec x h
    · rw [h]; exact hy'.1
  · intro x hx
    rcases List.mem_cons.1 hx with h | h
    · exact .inr h
    · exact .inl (A.que x (List.mem_cons_of_mem _ h))
  · rintro x (h | h)
    · rcases A.step x h with h1 | h1 | ⟨e, h2, h3, h4, h5, x', h6, h7, h8⟩
      · exact .inl h1
      · rcases List.mem_cons.1 h1 with h2 | h2
        · rw [h2]; exact .inr (.inr ⟨d, hd, hT, h0, hb, y', .inr rfl, hy', hK⟩)
        · exact .inr (.inl (List.mem_cons_of_mem _ h2))
      · exact .inr (.inr ⟨e, h2, h3, h4, h5, x', .inl h6, h7, h8⟩)
    · exact .inr (.inl (by rw [h]; exact List.mem_cons_self))
  · obtain ⟨c, c1, c2⟩ := A.com d e hde he h1 h2
    exact ⟨c, .inl c1, c2⟩
  · rintro x (h | h)
    · exact A.gen x h
    · rw [h]
      intro K S hQ
      exact hgen K S (A.gen _ (A.tab d hd hb).1 K S hQ) (A.gen _ (A.que y List.mem_cons_self) K S hQ)

omit G in
/-- the neutral element needs no waiting -/
theorem addInv_drop {Q : List Int → Prop} {b : Nat → List Int} {q : List (List Int)} {R : List Int → Prop} {y : List Int} (A : AddInv P Q b (y :: q) R) (hy : y = zeros P.orders.length) : AddInv P Q b q R := by
  refine ⟨A.tab, A.vec, fun x hx => A.que x (List.mem_cons_of_mem _ hx), A.src, fun x hx => ?_, A.pow, A.com, A.gen⟩
  rcases A.step x hx with h1 | h1 | h1
  · exact .inl h1
  · rcases List.mem_cons.1 h1 with h2 | h2
    · exact .inl (h2.trans hy)
    · exact .inr (.inl h2)
  · exact .inr (.inr h1)

/-- a new entry of the table; L: the commutators that are put to the queue -/
theorem Grp.addInv_insert {Q : List Int → Prop} {b b' : Nat → List Int} {q q' : List (List Int)} {R : List Int → Prop} {y z : List Int} (A : AddInv P Q b (y :: q) R) {d : Nat} (hd : d < P.orders.length) (hT : T P d y) (hb : b d = [])
    (hz : T P d z) (hz1 : gt z d = 1) (hgz : ∀ K, Sub P K → K y → K z) (hb' : ∀ e, e < P.orders.length → b' e = if e = d then z else b e)
    (hq1 : ∀ x ∈ q', x ∈ q ∨ x = y ∨ x = z ∨ x = pw P z (gt P.orders d).toNat ∨ ∃ e, e < P.orders.length ∧ b e ≠ [] ∧ (x = rMul P (rInv P (rMul P z (b e))) (rMul P (b e) z) ∨ x = rMul P (rInv P (rMul P (b e) z)) (rMul P z (b e))))
    (hq2 : ∀ x, x ∈ q ∨ x = y ∨ x = pw P z (gt P.orders d).toNat → x ∈ q')
    (hq3 : ∀ e, e < P.orders.length → b e ≠ [] → rMul P (rInv P (rMul P z (b e))) (rMul P (b e) z) ∈ q' ∨ rMul P (rInv P (rMul P (b e) z)) (rMul P z (b e)) ∈ q') :
    AddInv P Q b' q' (fun x => R x ∨ x = z ∨ x ∈ q') := by
  have ho := G.v.ord7 d hd
  have hzV := hz.1
  have hold : ∀ e, e < P.orders.length → b e ≠ [] → b' e = b e := fun e he hbe => by
    rw [hb' e he, if_neg (fun h => hbe (by rw [h]; exact hb))]
  have hcase : ∀ e, e < P.orders.length → b' e ≠ [] → (e = d ∧ b' e = z) ∨ (e ≠ d ∧ b e ≠ [] ∧ b' e = b e) := fun e he hbe => by
    by_cases h : e = d
    · exact .inl ⟨h, by rw [hb' e he, if_pos h]⟩
    · have h2 : b' e = b e := by rw [hb' e he, if_neg h]
      exact .inr ⟨h, by rw [← h2]; exact hbe, h2⟩
  have hbd' : b' d = z := by rw [hb' d hd, if_pos rfl]
  have hzne : z ≠ [] := by
    intro h
    have := hzV.1
    rw [h] at this; simp at this; omega
  have hqv : ∀ x ∈ q', Vec P.orders x ∧ genP P Q x := by
    have hgy := A.gen y (A.que y List.mem_cons_self)
    have hgz' : genP P Q z := fun K S hQ => hgz K S (hgy K S hQ)
    intro x hx
    rcases hq1 x hx with h | h | h | h | ⟨e, he, hbe, h | h⟩
    · have := A.que x (List.mem_cons_of_mem _ h); exact ⟨A.vec x this, A.gen x this⟩
    · rw [h]; exact ⟨hT.1, hgy⟩
    · rw [h]; exact ⟨hzV, hgz'⟩
    · rw [h]; exact ⟨G.pw_vec hzV _, fun K S hQ => S.pw (hgz' K S hQ) _⟩
    · have hbV := (A.tab e he hbe).2.1.1
      have hgb := A.gen _ (A.tab e he hbe).1
      rw [h]
      exact ⟨G.mulV (G.invV (G.mulV hzV hbV)) (G.mulV hbV hzV), fun K S hQ => S.mul _ _ (S.inv _ (S.mul _ _ (hgz' K S hQ) (hgb K S hQ))) (S.mul _ _ (hgb K S hQ) (hgz' K S hQ))⟩
    · have hbV := (A.tab e he hbe).2.1.1
      have hgb := A.gen _ (A.tab e he hbe).1
      rw [h]
      exact ⟨G.mulV (G.invV (G.mulV hbV hzV)) (G.mulV hzV hbV), fun K S hQ => S.mul _ _ (S.inv _ (S.mul _ _ (hgb K S hQ) (hgz' K S hQ))) (S.mul _ _ (hgz' K S hQ) (hgb K S hQ))⟩
  have hpz : T P (d + 1) (pw P z (gt P.orders d).toNat) := G.pw_order hd hz
  refine ⟨fun e he hbe => ?_, ?_, fun x hx => .inr (.inr hx), fun x hx => .inl (A.src x hx), ?_, fun e he hbe => ?_, fun e1 e2 hlt he2 h1 h2 => ?_, ?_⟩
  · rcases hcase e he hbe with ⟨h1, h2⟩ | ⟨h1, h2, h3⟩
    · subst h1; rw [h2]; exact ⟨.inr (.inl rfl), hz, hz1⟩
    · rw [h3]; exact ⟨.inl (A.tab e he h2).1, (A.tab e he h2).2⟩
  · rintro x (h | h | h)
    · exact A.vec x h
    · rw [h]; exact hzV
    · exact (hqv x h).1
  · rintro x (h | h | h)
    · rcases A.step x h with h1 | h1 | ⟨e, h2, h3, h4, h5, x', h6, h7, h8⟩
      · exact .inl h1
      · rcases List.mem_cons.1 h1 with h2 | h2
        · exact .inr (.inl (hq2 x (.inr (.inl h2))))
        · exact .inr (.inl (hq2 x (.inl h2)))
      · refine .inr (.inr ⟨e, h2, h3, h4, by rw [hold e h2 h5]; exact h5, x', .inl h6, h7, ?_⟩)
        rw [hold e h2 h5]; exact h8
    · -- the new entry itself: its power with the order, times its inverse
      subst h
      refine .inr (.inr ⟨d, hd, hz, by rw [hz1]; decide, by rw [hbd']; exact hzne, pw P x (gt P.orders d).toNat, .inr (.inr (hq2 _ (.inr (.inr rfl)))), hpz, fun K _ hk _ => by rw [hbd'] at hk; exact hk⟩)
    · exact .inr (.inl h)
  · rcases hcase e he hbe with ⟨h1, h2⟩ | ⟨h1, h2, h3⟩
    · subst h1; rw [h2]; exact .inr (.inr (hq2 _ (.inr (.inr rfl))))
    · rw [h3]; exact .inl (A.pow e he h2)
  · rcases hcase e1 (by omega) h1 with ⟨a1, a2⟩ | ⟨a1, a2, a3⟩
    · rcases hcase e2 he2 h2 with ⟨b1, b2⟩ | ⟨b1, b2, b3⟩
      · omega
      · subst a1
        rw [a2, b3]
        obtain ⟨k1, k2, k3⟩ := A.tab e2 he2 b2
        have hk2 := k2.down (show e1 + 1 ≤ e2 by omega)
        have hcd := G.comm_deep hd hz hk2
        rcases hq3 e2 he2 b2 with hm | hm
        · refine ⟨_, .inr (.inr hm), hcd.2, fun K SK g1 g2 => ?_⟩
          rw [G.conj_of_comm k2.1 hzV]; exact SK.mul _ _ g1 g2
        · refine ⟨_, .inr (.inr hm), hcd.1, fun K SK g1 g2 => ?_⟩
          rw [G.conj_of_comm k2.1 hzV, ← G.comm_inv k2.1 hzV]; exact SK.mul _ _ g1 (SK.inv _ g2)
    · rcases hcase e2 he2 h2 with ⟨b1, b2⟩ | ⟨b1, b2, b3⟩
      · subst b1
        rw [a3, b2]
        obtain ⟨k1, k2, k3⟩ := A.tab e1 (by omega) a2
        have hz2 := hz.down (show e1 + 1 ≤ e2 by omega)
        have hcd := G.comm_deep (by omega) k2 hz2
        rcases hq3 e1 (by omega) a2 with hm | hm
        · refine ⟨_, .inr (.inr hm), hcd.1, fun K SK g1 g2 => ?_⟩
          rw [G.conj_of_comm hzV k2.1, ← G.comm_inv hzV k2.1]; exact SK.mul _ _ g1 (SK.inv _ g2)
        · refine ⟨_, .inr (.inr hm), hcd.2, fun K SK g1 g2 => ?_⟩
          rw [G.conj_of_comm hzV k2.1]; exact SK.mul _ _ g1 g2
      · rw [a3, b3]
        obtain ⟨c, c1, c2⟩ := A.com e1 e2 hlt he2 a2 b2
        exact ⟨c, .inl c1, c2⟩
  · rintro x (h | h | h)
    · exact A.gen x h
    · rw [h]; intro K S hQ; exact hgz K S (A.gen _ (A.que y List.mem_cons_self) K S hQ)
    · exact (hqv x h).2

/-- the queue is empty: the table induces the subgroup -/
theorem Grp.addInv_end {Q : List Int → Prop} {b : Nat → List Int} {R : List Int → Prop} (A : AddInv P Q b [] R) : Ind P (genP P Q) b := by
  have C : Closed P b R := by
    refine ⟨fun d hd hb => (A.tab d hd hb).2, A.vec, fun q hq => ?_, A.pow, A.com⟩
    rcases A.step q hq with h | h | h
    · exact .inl h
    · cases h
    · exact .inr h
  obtain ⟨K, t⟩ := G.tailSub C P.orders.length 0 (by omega)
  have hgs := G.genP_sub (Q := Q) (fun y hy => A.vec y (A.src y hy))
  have hLK : ∀ x, genP P Q x → K x := fun x hx => genP_le t.sub (fun y hy => t.res y (A.src y hy) (T_zero.2 (A.vec y (A.src y hy)))) hx
  exact ⟨hgs, fun d hd hbd => ⟨A.gen _ (A.tab d hd hbd).1, (A.tab d hd hbd).2⟩, fun x hx d hd hT h0 => t.piv x (hLK x hx) d (by omega) hd hT h0⟩

end

end Go.Proofs.Ytbfbpjkpoepmkaa
