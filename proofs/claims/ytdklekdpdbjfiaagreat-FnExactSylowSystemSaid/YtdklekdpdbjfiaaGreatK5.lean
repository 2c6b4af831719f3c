/-
  Plain: the elements of a subgroup as products along its sequence.
  Lists of lists that a call builds by append, none of whose blocks is in A (a map that is written beside them).
  append of one element inside a region that draws its order.
  append to a queue of rows inside a region that draws its order; v[1:] at rows.
  (*impl.sequence).canonical.
  (*impl.sequence).add.
  impl.generated.
  impl.sameRows, impl.areSubgroups.
  Plain: a sequence as a table by depths, as the reference lays it; coset representatives, sifting and the reduced sequence by such a table.
  Plain: generated subgroups of sets; intersections.
  Plain: a group of order at most 32 has at most 17408 subgroups (a crude bound).
  impl.sizeOf.
  Plain: the subgroups of a small group as sets of bits; all of them are found; the ascending list is one.
  Plain: what impl.extendMask and spec.l19Span compute.
  Plain: what spec.l19Span computes: the bits of the subgroup that some elements generate.
  Plain: what spec.l19Sequence and l19Insert compute.
  The search for all subgroups: the list of masks that grows.
  Moebius values of a list of masks in ascending order.
  Plain: the list of products, element by element (for impl.elementsOf).
  Moebius values of the lattice: the sum over all subgroups above one; the number of generating lists.
  Plain: the elements of a consistent presentation as a type with products; subgroups, cosets, their counting.
-/
import Derived.Test.YtdklekdpdbjfiaaGreatK4
import Derived.Test.YtdklekdpdbjfiaaGreatK2
import Derived.Deep.AppendLies
import Derived.Test.YtdklekdpdbjfiaaGreatK3
/- Plain: the elements of a subgroup as products along its sequence. -/
namespace Go.Proofs.YtdklekdpdbjfiaaGreat

def stepE (P : Pr) (u : List Int) (o : Nat) (x : List Int) : List (List Int) := (List.range o).map (fun t => rMul P x (pw P u t))

def elsP (P : Pr) (U : List (List Int)) : Nat → List (List Int)
  | 0 => [zeros P.orders.length]
  | k + 1 => (elsP P U k).flatMap (stepE P (gt U k) (gt P.orders (dep (gt U k))).toNat)

section
variable {P : Pr} (G : Grp P)
include G

omit G in
theorem elsP_sub {H : List Int → Prop} {U : List (List Int)} (S : Sub P H) (hU : ∀ z ∈ U, H z) : ∀ k, k ≤ U.length → ∀ x ∈ elsP P U k, H x := by
  intro k
  induction k with
  | zero => intro _ x hx; simp [elsP] at hx; rw [hx]; exact S.one
  | succ k ih =>
    intro hk x hx
    simp only [elsP, List.mem_flatMap, stepE, List.mem_map] at hx
    obtain ⟨y, hy, t, _, rfl⟩ := hx
    exact S.mul _ _ (ih (by omega) y hy) (S.pw (hU _ (gtMem (by omega))) t)

theorem Grp.elsP_diff {U : List (List Int)} (hU : SeqOk P U) : ∀ k m, k ≤ U.length → (∀ j, j < k → dep (gt U j) < m) → m ≤ P.orders.length → (elsP P U k).Pairwise (fun x y => ∃ j, j < m ∧ gt x j ≠ gt y j) := by
  intro k
  induction k with
  | zero => intro m _ _ _; simp [elsP]
  | succ k ih =>
    intro m hk hj hm
    have hlt : k < U.length := by omega
    obtain ⟨hV, hd, h1⟩ := hU.1 _ (gtMem hlt)
    have hdm := hj k (by omega)
    have hT := dep_T hV
    have hIH := ih (dep (gt U k)) (by omega) (fun j hj => hU.2 j k hj hlt) (by omega)
    have hvec : ∀ x ∈ elsP P U k, Vec P.orders x := elsP_sub G.sub_all (fun z hz => (hU.1 z hz).1) k (by omega)
    have ho := G.v.ord (dep (gt U k)) hd
    have hat : ∀ x, Vec P.orders x → ∀ t : Nat, t < (gt P.orders (dep (gt U k))).toNat → gt (rMul P x (pw P (gt U k) t)) (dep (gt U k)) = (gt x (dep (gt U k)) + t) % gt P.orders (dep (gt U k)) ∧ ∀ j, j < dep (gt U k) → gt (rMul P x (pw P (gt U k) t)) j = gt x j := fun x hx t ht => by
      have hr := G.right (Nat.le_of_lt hd) hx (G.pw_T (Nat.le_of_lt hd) hT t)
      refine ⟨?_, hr.1⟩
      rw [hr.2 hd, G.pw_at hd hT, h1, Int.mul_one, Int.emod_eq_of_lt (show (0 : Int) ≤ t by omega) (by omega)]
    simp only [elsP]
    rw [List.pairwise_flatMap]
    refine ⟨fun x hx => ?_, ?_⟩
    · unfold stepE
      rw [List.pairwise_map]
      refine List.Pairwise.imp_of_mem ?_ List.pairwise_lt_range
      intro s t hs ht hst
      have hs := List.mem_range.1 hs
      have ht := List.mem_range.1 ht
      refine ⟨dep (gt U k), hdm, ?_⟩
      rw [(hat x (hvec x hx) s hs).1, (hat x (hvec x hx) t ht).1]
      rcases ho with h | h | h | h <;> rw [h] at hs ht ⊢ <;> omega
    · refine List.Pairwise.imp_of_mem ?_ hIH
      rintro x y hx hy ⟨j, hjd, hne⟩ a ha b hb
      simp only [stepE, List.mem_map, List.mem_range] at ha hb
      obtain ⟨s, hs, rfl⟩ := ha
      obtain ⟨t, ht, rfl⟩ := hb
      exact ⟨j, by omega, by rw [(hat x (hvec x hx) s hs).2 j hjd, (hat y (hvec y hy) t ht).2 j hjd]; exact hne⟩

theorem Grp.elsP_nodup {U : List (List Int)} (hU : SeqOk P U) : (elsP P U U.length).Nodup :=
  (G.elsP_diff hU U.length P.orders.length (Nat.le_refl _) (fun j hj => (hU.1 _ (gtMem hj)).2.1) (Nat.le_refl _)).imp (fun ⟨j, _, h⟩ e => h (by rw [e]))

/-- where the next pivot stands -/
def nextD (P : Pr) (U : List (List Int)) (k : Nat) : Nat := if k < U.length then dep (gt U k) else P.orders.length

theorem Grp.next_T {H : List Int → Prop} {U : List (List Int)} (hU : SeqOk P U) (hv : ∀ x, H x → Vec P.orders x) (hpiv : ∀ x, H x → ∀ d, d < P.orders.length → T P d x → gt x d ≠ 0 → ∃ j, j < U.length ∧ dep (gt U j) = d) (k m : Nat) (hk : k ≤ U.length) (hm : ∀ j, j < k → dep (gt U j) < m) {z : List Int} (hz : H z) (hT : ∀ j, j < m → gt z j = 0) : T P (nextD P U k) z := by
  by_cases h0 : z = zeros P.orders.length
  · rw [h0]; exact T.zeros G.v _
  · obtain ⟨d, hd, hTd, hne⟩ := depth_ex (hv z hz) h0
    obtain ⟨j, hj, hjd⟩ := hpiv z hz d hd hTd hne
    have hmd : m ≤ d := by
      rcases Nat.lt_or_ge d m with h | h
      · exact absurd (hT d h) hne
      · exact h
    have hkj : k ≤ j := by
      rcases Nat.lt_or_ge j k with h | h
      · have := hm j h; omega
      · exact h
    have hle : nextD P U k ≤ d := by
      unfold nextD
      rw [if_pos (by omega)]
      rcases Nat.lt_or_ge k j with h | h
      · have := hU.2 k j h hj; omega
      · have : k = j := by omega
        rw [this]; omega
    exact hTd.down hle

theorem Grp.elsP_all {H : List Int → Prop} {U : List (List Int)} (S : Sub P H) (hU : SeqOk P U) (hUH : ∀ z ∈ U, H z) (hpiv : ∀ x, H x → ∀ d, d < P.orders.length → T P d x → gt x d ≠ 0 → ∃ j, j < U.length ∧ dep (gt U j) = d) {h : List Int} (hh : H h) :
    ∀ k, k ≤ U.length → ∃ x z, x ∈ elsP P U k ∧ H z ∧ T P (nextD P U k) z ∧ h = rMul P x z := by
  intro k
  induction k with
  | zero => exact fun _ => ⟨zeros P.orders.length, h, by simp [elsP], hh, G.next_T hU S.vec hpiv 0 0 (by omega) (fun j hj => by omega) hh (fun j hj => by omega), (G.grp.el _ (S.vec h hh)).symm⟩
  | succ k ih =>
    intro hk
    have hlt : k < U.length := by omega
    obtain ⟨x, z, hx, hz, hTz, rfl⟩ := ih (by omega)
    unfold nextD at hTz
    rw [if_pos hlt] at hTz
    obtain ⟨hV, hd, h1⟩ := hU.1 _ (gtMem hlt)
    have hT := dep_T hV
    have hzd := hTz.1.2 _ hd
    have hxV := S.vec x (elsP_sub S hUH k (by omega) x hx)
    have hpV := G.pw_vec hV (gt z (dep (gt U k))).toNat
    have hpT := G.pw_T (Nat.le_of_lt hd) hT (gt z (dep (gt U k))).toNat
    have hpd : gt (pw P (gt U k) (gt z (dep (gt U k))).toNat) (dep (gt U k)) = gt z (dep (gt U k)) := by
      rw [G.pw_at hd hT, h1, Int.mul_one, Int.emod_eq_of_lt (by omega) (by omega)]; omega
    have hT2 := G.diff hd hpT hTz hpd
    have hH2 : H (rMul P (rInv P (pw P (gt U k) (gt z (dep (gt U k))).toNat)) z) := S.mul _ _ (S.inv _ (S.pw (hUH _ (gtMem hlt)) _)) hz
    have hzV := S.vec z hz
    refine ⟨rMul P x (pw P (gt U k) (gt z (dep (gt U k))).toNat), _, ?_, hH2, ?_, ?_⟩
    · simp only [elsP, List.mem_flatMap, stepE, List.mem_map, List.mem_range]
      exact ⟨x, hx, _, by omega, rfl⟩
    · exact G.next_T hU S.vec hpiv (k + 1) (dep (gt U k) + 1) hk (fun j hj => by
        rcases Nat.lt_succ_iff_lt_or_eq.1 hj with h | h
        · have := hU.2 j k h hlt; omega
        · rw [h]; omega) hH2 hT2.2
    · rw [G.ass hxV hpV (G.mulV (G.invV hpV) hzV), ← G.ass hpV (G.invV hpV) hzV, G.mul_inv hpV, G.grp.el _ hzV]

theorem Grp.elsP_mem {H : List Int → Prop} {U : List (List Int)} (S : Sub P H) (hU : SeqOk P U) (hUH : ∀ z ∈ U, H z) (hpiv : ∀ x, H x → ∀ d, d < P.orders.length → T P d x → gt x d ≠ 0 → ∃ j, j < U.length ∧ dep (gt U j) = d) (h : List Int) : h ∈ elsP P U U.length ↔ H h := by
  refine ⟨elsP_sub S hUH _ (Nat.le_refl _) h, fun hh => ?_⟩
  obtain ⟨x, z, hx, hz, hTz, he⟩ := G.elsP_all S hU hUH hpiv hh U.length (Nat.le_refl _)
  unfold nextD at hTz
  rw [if_neg (by omega)] at hTz
  have hz0 : z = zeros P.orders.length := Vec.ext hTz.1 (zeros_vec G.v) (fun k hk => by rw [hTz.2 k (by have := hTz.1.1; omega)]; exact (gt_replicate _ _).symm)
  rw [he, hz0, G.grp.er _ (S.vec x (elsP_sub S hUH _ (Nat.le_refl _) x hx))]
  exact hx

/-- a canonical sequence, its subgroup -/
theorem Grp.seq_facts {H : List Int → Prop} (S : Sub P H) : SeqOk P (cseq P H) ∧ (∀ z ∈ cseq P H, H z) ∧ ∀ x, H x → ∀ d, d < P.orders.length → T P d x → gt x d ≠ 0 → ∃ j, j < (cseq P H).length ∧ dep (gt (cseq P H) j) = d := by
  obtain ⟨r, hR, he⟩ := G.cseq_spec S
  have hC : CanInv P H r r 0 := ⟨fun e _ _ => Iff.rfl, fun e _ h1 h2 => hR.mem e h1 h2, fun e e' _ h1 h2 h3 h4 => hR.red e e' h1 h2 h3 h4⟩
  rw [he, sq_all]
  refine ⟨hC.seqOk (by omega), fun z hz => ?_, fun x hx d hd hT h0 => ?_⟩
  · obtain ⟨e, _, h2, h3, rfl⟩ := mem_sq.1 hz
    exact (hR.mem e (by omega) h3).1
  · have hr := hR.piv x hx d hd hT h0
    have hm : r d ∈ sq r P.orders.length 0 := mem_sq.2 ⟨d, by omega, by omega, hr, rfl⟩
    obtain ⟨j, hj, hje⟩ := List.getElem_of_mem hm
    exact ⟨j, hj, by rw [gt_eq _ j hj, hje]; exact hC.dep (by omega) hd hr⟩

/-- the sorted list of the products is the list of the elements -/
theorem Grp.els_sorted {H : List Int → Prop} (S : Sub P H) : sortL (elsP P (cseq P H) (cseq P H).length) = elemsIn P H := by
  obtain ⟨h1, h2, h3⟩ := G.seq_facts S
  exact sort_elemsIn G.v S.vec (G.elsP_nodup h1) (G.elsP_mem S h1 h2 h3)

end

end Go.Proofs.YtdklekdpdbjfiaaGreat

/- Lists of lists that a call builds by append, none of whose blocks is in A (a map that is written beside them). -/
namespace Go.Proofs.YtdklekdpdbjfiaaGreat
open Go.RowKit

/-- SlO, and none of its blocks is in A -/
def SlOA {α : Type} [Inhabited α] (El : (Nat → Prop) → World → Value → α → Prop) (E B : Nat) (A : Nat → Prop) (w : World) (v : Value) (xs : List α) : Prop :=
  ∃ (vs : List Value) (G : Nat → Nat → Prop), vs.length = xs.length ∧ OwnV B E w v vs ∧ (∀ i k, i < xs.length → G i k → B ≤ k ∧ v.ownBlock ≠ some k ∧ k < w.heap.size) ∧
    (∀ i j k, i < xs.length → j < xs.length → G i k → G j k → i = j) ∧ (∀ i, i < xs.length → El (G i) w (gt vs i) (gt xs i)) ∧ (∀ i k, i < xs.length → G i k → ¬ A k) ∧ ∀ k, v.ownBlock = some k → ¬ A k

theorem SlOA.o {α : Type} [Inhabited α] {El : (Nat → Prop) → World → Value → α → Prop} {E B : Nat} {A : Nat → Prop} {w : World} {v : Value} {xs : List α} (h : SlOA El E B A w v xs) : SlO El E B w v xs := by
  obtain ⟨vs, G, h1, h2, h3, h4, h5, _⟩ := h
  exact ⟨vs, G, h1, h2, h3, h4, h5⟩

/-- blocks in A that are not older than the list come into being behind it -/
theorem SlO.avoid {α : Type} [Inhabited α] {El : (Nat → Prop) → World → Value → α → Prop} {E B : Nat} {A : Nat → Prop} {w : World} {v : Value} {xs : List α} (h : SlO El E B w v xs) (hA : ∀ k, A k → w.heap.size ≤ k) : SlOA El E B A w v xs := by
  obtain ⟨vs, G, h1, h2, h3, h4, h5⟩ := h
  exact ⟨vs, G, h1, h2, h3, h4, h5, fun i k hi hk ha => by have := (h3 i k hi hk).2.2; have := hA k ha; omega, fun k hk ha => by have := (h2.lt k hk).2; have := hA k ha; omega⟩

theorem SlOA.ext {α : Type} [Inhabited α] {El : (Nat → Prop) → World → Value → α → Prop} (hEl : RdOk El) {E B : Nat} {A : Nat → Prop} {w w' : World} {v : Value} {xs : List α} (h : SlOA El E B A w v xs) (hg : Ext w w') : SlOA El E B A w' v xs := by
  obtain ⟨vs, G, hvl, hO, hG, hd, hE, hr⟩ := h
  refine ⟨vs, G, hvl, hO.kept hg (by cases hv : v.ownBlock <;> simp), fun i k hi hk => ?_, hd, fun i hi => hEl.mono (hE i hi) (fun k hk hlt => ⟨hk, Nat.lt_of_lt_of_le hlt hg.size, hg.block k hlt (by simp)⟩), hr⟩
  obtain ⟨a, b, c⟩ := hG i k hi hk
  exact ⟨a, b, Nat.lt_of_lt_of_le c hg.size⟩

/-- blocks that are not older than the list may be put to A -/
theorem SlOA.more {α : Type} [Inhabited α] {El : (Nat → Prop) → World → Value → α → Prop} {E B : Nat} {A A' : Nat → Prop} {w : World} {v : Value} {xs : List α} (h : SlOA El E B A w v xs) (hA : ∀ k, A' k → A k ∨ w.heap.size ≤ k) : SlOA El E B A' w v xs := by
  obtain ⟨vs, G, h1, h2, h3, h4, h5, h6, h7⟩ := h
  refine ⟨vs, G, h1, h2, h3, h4, h5, fun i k hi hk ha => ?_, fun k hk ha => ?_⟩
  · rcases hA k ha with h | h
    · exact h6 i k hi hk h
    · have := (h3 i k hi hk).2.2; omega
  · rcases hA k ha with h | h
    · exact h7 k hk h
    · have := (h2.lt k hk).2; omega
theorem SlOA.less {α : Type} [Inhabited α] {El : (Nat → Prop) → World → Value → α → Prop} {E B : Nat} {A A' : Nat → Prop} {w : World} {v : Value} {xs : List α} (h : SlOA El E B A w v xs) (hA : ∀ k, A' k → A k) : SlOA El E B A' w v xs :=
  h.more fun k hk => .inl (hA k hk)
theorem SlOA.avoids {α : Type} [Inhabited α] {El : (Nat → Prop) → World → Value → α → Prop} {E B : Nat} {A : Nat → Prop} {w : World} {v : Value} {xs : List α} (h : SlOA El E B A w v xs) (k : Nat) (hk : v.ownBlock = some k) : ¬ A k ∧ B ≤ k ∧ k < w.heap.size := by
  obtain ⟨vs, G, h1, h2, h3, h4, h5, h6, h7⟩ := h
  exact ⟨h7 k hk, h2.lt k hk⟩

/-- a block in A is written -/
theorem SlOA.kept {α : Type} [Inhabited α] {El : (Nat → Prop) → World → Value → α → Prop} (hEl : RdOk El) {E B m : Nat} {A : Nat → Prop} {w w' : World} {v : Value} {xs : List α} (h : SlOA El E B A w v xs) (hg : w.grownBy w' (some m)) (hm : A m) : SlOA El E B A w' v xs := by
  obtain ⟨vs, G, hvl, hO, hG, hd, hE, hr, hr2⟩ := h
  refine ⟨vs, G, hvl, hO.kept hg ?_, fun i k hi hk => ?_, hd, fun i hi => hEl.mono (hE i hi) (fun k hk hlt => ⟨hk, Nat.lt_of_lt_of_le hlt hg.size, hg.block k hlt (fun e => hr i k hi hk (by cases e; exact hm))⟩), hr, hr2⟩
  · cases hv : v.ownBlock with
    | none => exact .inl rfl
    | some b => exact .inr (fun e => hr2 b hv (by cases e; exact hm))
  · obtain ⟨a, b, c⟩ := hG i k hi hk
    exact ⟨a, b, Nat.lt_of_lt_of_le c hg.size⟩

/-- append of one element that was made since -/
theorem wp_app_oneA {α : Type} [Inhabited α] {El : (Nat → Prop) → World → Value → α → Prop} (hEl : RdOk El) (T E : Nat) (z : Value) (bytes : Nat) (hT : Tryz.prog.underlying T = some (.slice E))
    (hE : (Tryz.prog.info? E).map (fun i => (i.zero, i.size, i.bytes)) = some (some z, 1, bytes)) (hzs : z.cells.size = 1) (hbt : bytes ≤ 64)
    {ops : Array Oper} {rest : List Oper} {o : Oper} {a : Act} {Q : Exit → Act → World → Prop} {w : World} (hgd : o.guard = none) (s x : Operand)
    (ho : o.op = Op.call { callee := Callee.builtin Builtin.append, args := #[s, x], argTypes := #[T, T] }) (B : Nat) (A : Nat → Prop) (w1 w2 : World) (v u : Value) (xs : List α) (y : α) (hs : a.eval s = v) (hown : SlOA El E B A w1 v xs) (hA : ∀ k, A k → k < w1.heap.size)
    (r : Option Nat) (hg : w1.grownBy w2 r) (hrA : ∀ k, r = some k → A k) (hu : El (From w1.heap.size) w2 u y) (hw : w = w2.alloc (.cells #[u] E)) (hx : a.eval x = .slice (some ⟨w2.heap.size, 0, none⟩) 1 1) (hlen : xs.length ≤ 1000000) (hbase : B ≤ w1.heap.size)
    (h : ∀ v' w', SlOA El E B A w' v' (xs ++ [y]) → w2.grownBy w' v.ownBlock → wpList Tryz.prog ops Q rest (a.put o.dst v') w') :
    wpList Tryz.prog ops Q (o :: rest) a w := by
  subst hw
  obtain ⟨vs, G, hvl, hO, hG, hd, hEx, hr, hr2⟩ := hown
  have hga : Ext w2 (w2.alloc (.cells #[u] E)) := World.grownBy_alloc _ _ _
  have hne : v.ownBlock = none ∨ v.ownBlock ≠ r := by
    cases hv : v.ownBlock with
    | none => exact .inl rfl
    | some b => exact .inr (fun e => hr2 b hv (hrA b e.symm))
  have hO2 : OwnV B E (w2.alloc (.cells #[u] E)) v vs := hO.kept (grown_trans hg (grown_of_ext _ hga)) hne
  refine wp_app T E z bytes hT hE hzs hbt hgd s x ho B v vs hs hO2 (some ⟨w2.heap.size, 0, none⟩) 1 1 [u] hx rfl (by simp) ?_ ?_ (by omega) (by have := hg.size; simp; omega) ?_
  · intro j hj
    have : j = 0 := by omega
    subst this
    exact ⟨w2.heap.size, 0, rfl, by rw [World.cell?_alloc_at _ _ _ _ rfl]; rfl⟩
  · intro u' hu'
    simp at hu'; subst hu'; exact hEl.one hu
  · intro v' w' h1 h2 _ hat
    have hvb : ∀ k, v.ownBlock = some k → B ≤ k ∧ k < w1.heap.size := hO.lt
    have hg2 : w2.grownBy w' v.ownBlock := grown_trans (grown_of_ext _ hga) h2
    have hsz : w1.heap.size ≤ w'.heap.size := Nat.le_trans hg.size hg2.size
    have hv'b : ∀ k, v'.ownBlock = some k → v.ownBlock = some k ∨ w2.heap.size < k := by
      intro k hk
      rcases hat with h | h
      · exact .inl (by rw [← h]; exact hk)
      · rw [h] at hk
        have : (w2.alloc (.cells #[u] E)).heap.size = k := by simpa using hk
        simp at this
        exact .inr (by omega)
    refine h v' w' ⟨vs ++ [u], fun i k => if i < xs.length then G i k ∧ k < w1.heap.size else w1.heap.size ≤ k ∧ k < w2.heap.size, by simp [hvl], h1, ?_, ?_, ?_, ?_, ?_⟩ hg2
    · intro i k hi hk
      split at hk
      · rename_i hlt
        obtain ⟨a1, a2, a3⟩ := hG i k hlt hk.1
        refine ⟨a1, fun hv' => ?_, Nat.lt_of_lt_of_le a3 hsz⟩
        rcases hv'b k hv' with h | h
        · exact a2 h
        · have := hg.size; omega
      · refine ⟨by omega, fun hv' => ?_, Nat.lt_of_lt_of_le hk.2 hg2.size⟩
        rcases hv'b k hv' with h | h
        · have := hvb k h; omega
        · omega
    · intro i j k hi hj hk hk'
      simp only [List.length_append, List.length_singleton] at hi hj
      split at hk <;> split at hk'
      · exact hd i j k (by assumption) (by assumption) hk.1 hk'.1
      · omega
      · omega
      · omega
    · intro i hi
      simp only [List.length_append, List.length_singleton] at hi
      by_cases hlt : i < xs.length
      · rw [gt_append_left _ _ _ (by omega), gt_append_left _ _ _ hlt]
        simp only [if_pos hlt]
        exact hEl.mono (hEx i hlt) (fun k hk hkl => ⟨⟨hk, hkl⟩, Nat.lt_of_lt_of_le hkl hsz, (hg2.block k (Nat.lt_of_lt_of_le hkl hg.size) (fun e => (hG i k hlt hk).2.1 e.symm)).trans (hg.block k hkl (fun e => hr i k hlt hk (hrA k e.symm)))⟩)
      · have hi2 : i = xs.length := by omega
        subst hi2
        rw [gt_concat, ← hvl, gt_concat]
        simp only [hvl, Nat.lt_irrefl, if_false]
        exact hEl.mono hu (fun k hk hkl => ⟨⟨hk, hkl⟩, Nat.lt_of_lt_of_le hkl hg2.size, hg2.block k hkl (fun e => by
          have hk : w1.heap.size ≤ k := hk
          have := hvb k e.symm; omega)⟩)
    · intro i k hi hk ha
      split at hk
      · exact hr i k (by assumption) hk.1 ha
      · have := hA k ha; omega
    · intro k hk ha
      rcases hv'b k hk with h | h
      · exact hr2 k h ha
      · have := hA k ha; have := hg.size; omega

theorem wp_app_rowA {ops : Array Oper} {rest : List Oper} {o : Oper} {a : Act} {Q : Exit → Act → World → Prop} {w : World} (hgd : o.guard = none) (s x : Operand)
    (ho : o.op = Op.call { callee := Callee.builtin Builtin.append, args := #[s, x], argTypes := #[23, 23] }) (B : Nat) (A : Nat → Prop) (w1 w2 : World) (v u : Value) (xs : List (List Int)) (y : List Int) (hs : a.eval s = v)
    (hown : SlOA OwnIn 22 B A w1 v xs) (hA : ∀ k, A k → k < w1.heap.size)
    (r : Option Nat) (hg : w1.grownBy w2 r) (hrA : ∀ k, r = some k → A k) (hu : OwnIn (From w1.heap.size) w2 u y) (hw : w = w2.alloc (.cells #[u] 22)) (hx : a.eval x = .slice (some ⟨w2.heap.size, 0, none⟩) 1 1) (hlen : xs.length ≤ 1000000) (hbase : B ≤ w1.heap.size)
    (h : ∀ v' w', SlOA OwnIn 22 B A w' v' (xs ++ [y]) → w2.grownBy w' v.ownBlock → wpList Tryz.prog ops Q rest (a.put o.dst v') w') :
    wpList Tryz.prog ops Q (o :: rest) a w :=
  wp_app_oneA rdOwn 23 22 (.slice none 0 0) 24 und_rows Tryz.infoRow rfl (by decide) hgd s x ho B A w1 w2 v u xs y hs hown hA r hg hrA hu hw hx hlen hbase h

end Go.Proofs.YtdklekdpdbjfiaaGreat

/- append of one element inside a region that draws its order. -/
namespace Go.Proofs.YtdklekdpdbjfiaaGreat
open Go.RowKit

theorem step_app (T E : Nat) (z : Value) (bytes : Nat) (hT : Tryz.prog.underlying T = some (.slice E)) (hE : (Tryz.prog.info? E).map (fun i => (i.zero, i.size, i.bytes)) = some (some z, 1, bytes))
    (hzs : z.cells.size = 1) (hbt : bytes ≤ 64) {ops : Array Oper} {o : Oper} {a : Act} {K : Act → World → Prop} {Q : Exit → Act → World → Prop} {Ex : Prop} {w : World} (hgd : o.guard = none) (s x : Operand)
    (ho : o.op = Op.call { callee := Callee.builtin Builtin.append, args := #[s, x], argTypes := #[T, T] }) (base : Nat) (v : Value) (xs : List Value) (hs : a.eval s = v) (hown : OwnV base E w v xs)
    (H : Nat) (u : Value) (hx : a.eval x = .slice (some ⟨H, 0, none⟩) 1 1) (hu : w.cell? ⟨H, 0, none⟩ = some u) (h1 : u.oneCell' = true) (hlen : xs.length ≤ 2000000) (hbase : base ≤ w.heap.size)
    (h : ∀ v' w', OwnV base E w' v' (xs ++ [u]) → w.grownBy w' v.ownBlock → (v'.ownBlock = v.ownBlock ∨ v'.ownBlock = some w.heap.size) → K (a.put o.dst v') w') :
    if Region.wanted o (yielded ops a.tmps) = true then Oper.wp Tryz.prog o a w K Q else Ex := by
  obtain ⟨i0, hi, hz0, hz1, hz2⟩ := info_parts hE
  refine step_append_lies w hgd s x T ho base E i0 z 1 bytes hT hi hz0 hz1 hz2 hzs (by decide) v xs.length xs hs hown ⟨H, 0, none⟩ 1 1 [u] hx rfl ?_ ?_ (by omega) (by unfold maxLen; omega) (by have := Nat.mul_le_mul (show xs.length + 1 ≤ 2000001 by omega) hbt; omega) hbase w.heap.size rfl ?_
  · intro j u' hj
    match j, hj with
    | 0, hj =>
      simp at hj; subst hj
      simpa [Addr.add] using hu
  · intro u' hu'
    simp at hu'; subst hu'; exact h1
  · intro g cap w' k1 k2 k3 _
    refine h _ w' ?_ k2 ?_
    · unfold OwnV; rw [List.length_append]; exact k1
    · rcases k3 with k3 | k3
      · left; rw [k3]; rfl
      · right; rw [← k3]; rfl

/-- append of one element that was made since, in a region that draws -/
theorem step_app_one {α : Type} [Inhabited α] {El : (Nat → Prop) → World → Value → α → Prop} (hEl : RdOk El) (T E : Nat) (z : Value) (bytes : Nat) (hT : Tryz.prog.underlying T = some (.slice E))
    (hE : (Tryz.prog.info? E).map (fun i => (i.zero, i.size, i.bytes)) = some (some z, 1, bytes)) (hzs : z.cells.size = 1) (hbt : bytes ≤ 64)
    {ops : Array Oper} {o : Oper} {a : Act} {K : Act → World → Prop} {Q : Exit → Act → World → Prop} {Ex : Prop} {w : World} (hgd : o.guard = none) (s x : Operand)
    (ho : o.op = Op.call { callee := Callee.builtin Builtin.append, args := #[s, x], argTypes := #[T, T] }) (B : Nat) (w1 w2 : World) (v u : Value) (xs : List α) (y : α) (hs : a.eval s = v) (hown : SlO El E B w1 v xs)
    (hg : Ext w1 w2) (hu : El (From w1.heap.size) w2 u y) (hw : w = w2.alloc (.cells #[u] E)) (hx : a.eval x = .slice (some ⟨w2.heap.size, 0, none⟩) 1 1) (hlen : xs.length ≤ 1000000) (hbase : B ≤ w1.heap.size)
    (h : ∀ v' w', SlO El E B w' v' (xs ++ [y]) → w1.grownBy w' v.ownBlock → w2.grownBy w' v.ownBlock → K (a.put o.dst v') w') :
    if Region.wanted o (yielded ops a.tmps) = true then Oper.wp Tryz.prog o a w K Q else Ex := by
  subst hw
  obtain ⟨vs, G, hvl, hO, hG, hd, hEx⟩ := hown
  have hga : Ext w2 (w2.alloc (.cells #[u] E)) := World.grownBy_alloc _ _ _
  have hO2 : OwnV B E (w2.alloc (.cells #[u] E)) v vs := hO.kept (grown_trans hg hga) (by cases hv : v.ownBlock <;> simp)
  refine step_app T E z bytes hT hE hzs hbt hgd s x ho B v vs hs hO2 w2.heap.size u hx (by rw [World.cell?_alloc_at _ _ _ _ rfl]; rfl) (hEl.one hu) (by omega) (by have := hg.size; simp; omega) ?_
  intro v' w' h1 h2 hat
  have hvb : ∀ k, v.ownBlock = some k → B ≤ k ∧ k < w1.heap.size := hO.lt
  have hg2 : w2.grownBy w' v.ownBlock := grown_trans (grown_of_ext _ hga) h2
  have hg1 : w1.grownBy w' v.ownBlock := grown_trans (grown_of_ext _ hg) hg2
  have hv'b : ∀ k, v'.ownBlock = some k → v.ownBlock = some k ∨ w2.heap.size < k + 1 := by
    intro k hk
    rcases hat with h | h
    · exact .inl (by rw [← h]; exact hk)
    · rw [h] at hk
      have : (w2.alloc (.cells #[u] E)).heap.size = k := by simpa using hk
      simp at this
      exact .inr (by omega)
  have hsz2 := hg.size
  refine h v' w' ⟨vs ++ [u], fun i k => if i < xs.length then G i k ∧ k < w1.heap.size else w1.heap.size ≤ k ∧ k < w2.heap.size, by simp [hvl], h1, ?_, ?_, ?_⟩ hg1 hg2
  · intro i k hi hk
    split at hk
    · rename_i hlt
      obtain ⟨a1, a2, a3⟩ := hG i k hlt hk.1
      refine ⟨a1, fun hv' => ?_, Nat.lt_of_lt_of_le a3 hg1.size⟩
      rcases hv'b k hv' with h | h
      · exact a2 h
      · omega
    · refine ⟨by omega, fun hv' => ?_, Nat.lt_of_lt_of_le hk.2 hg2.size⟩
      rcases hv'b k hv' with h | h
      · have := hvb k h; omega
      · omega
  · intro i j k hi hj hk hk'
    simp only [List.length_append, List.length_singleton] at hi hj
    split at hk <;> split at hk'
    · exact hd i j k (by assumption) (by assumption) hk.1 hk'.1
    · omega
    · omega
    · omega
  · intro i hi
    simp only [List.length_append, List.length_singleton] at hi
    by_cases hlt : i < xs.length
    · rw [gt_append_left _ _ _ (by omega), gt_append_left _ _ _ hlt]
      simp only [if_pos hlt]
      exact hEl.mono (hEx i hlt) (fun k hk hkl => ⟨⟨hk, hkl⟩, Nat.lt_of_lt_of_le hkl hg1.size, hg1.block k hkl (fun e => (hG i k hlt hk).2.1 e.symm)⟩)
    · have hi2 : i = xs.length := by omega
      subst hi2
      rw [gt_concat, ← hvl, gt_concat]
      simp only [hvl, Nat.lt_irrefl, if_false]
      exact hEl.mono hu (fun k hk hkl => ⟨⟨hk, hkl⟩, Nat.lt_of_lt_of_le hkl hg2.size, hg2.block k hkl (fun e => by
        have hk : w1.heap.size ≤ k := hk
        have := hvb k e.symm; omega)⟩)

end Go.Proofs.YtdklekdpdbjfiaaGreat

/- append to a queue of rows inside a region that draws its order; v[1:] at rows. -/
namespace Go.Proofs.YtdklekdpdbjfiaaGreat
open Go.RowKit

theorem step_append_at {P : Program} (w : World) {ops : Array Oper} {o : Oper} {a : Act} {K : Act → World → Prop} {Q : Exit → Act → World → Prop} {Ex : Prop}
    (hg : o.guard = none) (s x : Operand) (t : TypeId) (hop : o.op = Op.call { callee := Callee.builtin Builtin.append, args := #[s, x], argTypes := #[t, t] })
    (e : TypeId) (i : TypeInfo) (z : Value) (size bytes : Nat) (h1 : P.underlying t = some (.slice e)) (h2 : P.info? e = some i) (h3 : i.zero = some z) (h4 : i.size = size) (h5 : i.bytes = bytes) (h6 : z.cells.size = size) (h7 : 0 < size)
    (b off n cap : Nat) (olds : List Value) (hs : a.eval s = .slice (some ⟨b, off, none⟩) n cap) (hlo : olds.length = n * size) (holds : ∀ j u, olds[j]? = some u → w.cell? ⟨b, off + j, none⟩ = some u)
    (ad : Addr) (m c : Nat) (news : List Value) (hx : a.eval x = .slice (some ad) m c) (hn : news.length = m * size) (hc : ∀ j u, news[j]? = some u → w.cell? (ad.add j) = some u) (h1c : ∀ u ∈ news, u.oneCell' = true)
    (hspare : n + m ≤ cap → ∀ j, j < news.length → (w.cell? ⟨b, off + n * size + j, none⟩).isSome = true ∧ w.frozen? ⟨b, off + n * size + j, none⟩ = false)
    (b1 : n + m ≤ maxLen) (b2 : (n + m) * bytes ≤ 140737488355328)
    (hroom : n + m ≤ cap → K (a.put o.dst (.slice (some ⟨b, off, none⟩) (n + m) cap)) (w.setCells b (off + n * size) news))
    (hgrow : cap < n + m → ∀ v' w', w'.ownsRow w.heap.size e size v' (n + m) (olds ++ news) → w.grownBy w' none → K (a.put o.dst v') w') :
    if Region.wanted o (yielded ops a.tmps) = true then Oper.wp P o a w K Q else Ex := by
  have hw : Region.wanted o (yielded ops a.tmps) = true := by simp [Region.wanted, hg]
  rw [if_pos hw]
  by_cases hr : n + m ≤ cap
  · subst h4
    have hrun := run_append_room_cells (P := P) w t o.type e i h1 h2 b off n cap ad m c news hn hc h1c hr (fun j hj => (hspare hr j hj).1) (fun j hj => (hspare hr j hj).2)
    unfold Oper.wp
    simp [execOp, hop, resolve, invoke, builtin, hs, hx, hrun, Result.andThen]
    exact hroom hr
  · obtain ⟨v', w', hrun, r1, r2⟩ := run_append_arg_grows (P := P) w t o.type e i z size bytes h1 h2 h3 h4 h5 h6 h7 ⟨b, off, none⟩ n cap olds hlo (fun j u hj => by rw [Addr.add_lit]; exact holds j u hj) ad m c news hn hc (by omega) b1 b2
    unfold Oper.wp
    simp [execOp, hop, resolve, invoke, builtin, hs, hx, hrun, Result.andThen]
    exact hgrow (by omega) v' w' r1 r2

theorem step_q_app (T E : Nat) (z : Value) (bytes : Nat) (hT : Tryz.prog.underlying T = some (.slice E)) (hE : (Tryz.prog.info? E).map (fun i => (i.zero, i.size, i.bytes)) = some (some z, 1, bytes))
    (hzs : z.cells.size = 1) (hbt : bytes ≤ 64) {ops : Array Oper} {o : Oper} {a : Act} {K : Act → World → Prop} {Q : Exit → Act → World → Prop} {Ex : Prop} {w : World} (hgd : o.guard = none) (s x : Operand)
    (ho : o.op = Op.call { callee := Callee.builtin Builtin.append, args := #[s, x], argTypes := #[T, T] }) (base : Nat) (v : Value) (xs : List Value) (hs : a.eval s = v) (hown : QOwn base E w v xs)
    (H : Nat) (u : Value) (hx : a.eval x = .slice (some ⟨H, 0, none⟩) 1 1) (hu : w.cell? ⟨H, 0, none⟩ = some u) (h1 : u.oneCell' = true) (hlen : xs.length ≤ 1000000) (hbase : base ≤ w.heap.size)
    (h : ∀ v' w', QOwn base E w' v' (xs ++ [u]) → w.grownBy w' v.ownBlock → (v'.ownBlock = v.ownBlock ∨ ∀ k, v'.ownBlock = some k → w.heap.size ≤ k) → K (a.put o.dst v') w') :
    if Region.wanted o (yielded ops a.tmps) = true then Oper.wp Tryz.prog o a w K Q else Ex := by
  rcases hown with ⟨rfl, rfl⟩ | ⟨g, off, cap, cur, rfl, hb, hg, hnc, hcm, hsz, hc⟩
  · refine step_app T E z bytes hT hE hzs hbt hgd s x ho base (.slice none 0 0) [] hs (World.ownsRow_nil _ _ _ _) H u hx hu h1 (by simp) hbase ?_
    intro v' w' k1 k2 k4
    exact h v' w' (QOwn.of k1) k2 (k4.imp id (fun e k hk => by rw [e] at hk; cases hk; exact Nat.le_refl _))
  · obtain ⟨i0, hi, hz0, hz1, hz2⟩ := info_parts hE
    have hgs : g < w.heap.size := (Array.getElem?_eq_some_iff.1 hg).1
    have hcell : ∀ i, i < cur.size → w.cell? ⟨g, i, none⟩ = cur[i]? := fun i _ => by
      simp only [World.cell?, hg, Option.isSome_none, Bool.false_eq_true, if_false]
    refine step_append_at w hgd s x T ho E i0 z 1 bytes hT hi hz0 hz1 hz2 hzs (by decide) g off xs.length cap xs hs (by omega) ?_ ⟨H, 0, none⟩ 1 1 [u] hx rfl ?_ ?_ ?_ (by unfold maxLen; omega) (by have := Nat.mul_le_mul (show xs.length + 1 ≤ 1000001 by omega) hbt; omega) ?_ ?_
    · intro j u' hj
      have hj2 : j < xs.length := by
        rcases Nat.lt_or_ge j xs.length with h | h
        · exact h
        · rw [List.getElem?_eq_none h] at hj; cases hj
      rw [hcell _ (by omega), hc j hj2]
      simp [gt, hj]
    · intro j u' hj
      match j, hj with
      | 0, hj =>
        simp at hj; subst hj
        simpa [Addr.add] using hu
    · intro u' hu'
      simp at hu'; subst hu'; exact h1
    · intro hroom j hj
      have : j = 0 := by simpa using hj
      subst this
      refine ⟨?_, ?_⟩
      · rw [hcell _ (by omega), Array.getElem?_eq_getElem (by omega)]; rfl
      · simp [World.frozen?, hg]
    · intro hroom
      have e : w.setCells g (off + xs.length * 1) [u] = w.setCell ⟨g, off + xs.length, none⟩ u := by
        simp [World.setCells]
      rw [e]
      refine h _ _ (.inr ⟨g, off, cap, cur.setIfInBounds (off + xs.length) u, by simp, hb, ?_, by simpa using hroom, hcm, by simpa using hsz, fun i hi => ?_⟩) ?_ (.inl rfl)
      · simp only [World.setCell, Array.getElem?_modify, if_true, hg, Option.map_some]
        simp
      · simp only [List.length_append, List.length_singleton] at hi
        by_cases ei : i = xs.length
        · subst ei
          rw [gt_concat, Array.getElem?_setIfInBounds_self]
          simp; omega
        · rw [gt_append_left _ _ _ (by omega), Array.getElem?_setIfInBounds_ne (by omega)]
          exact hc i (by omega)
      · exact ⟨rfl, rfl, rfl, by simp [World.setCell], fun k hk hne => Below.heap_setCell _ _ _ _ (by intro e2; exact hne (by rw [e2]; rfl))⟩
    · intro hgrow v' w' k1 k2
      have k3 : OwnV base E w' v' (xs ++ [u]) := by
        unfold OwnV
        rw [List.length_append]
        obtain ⟨h1', h2'⟩ := k1
        refine ⟨h1', ?_⟩
        rcases h2' with h | ⟨g', cap', cur', hv, hg', r⟩
        · exact .inl h
        · exact .inr ⟨g', cap', cur', hv, by omega, r⟩
      refine h v' w' (QOwn.of k3) (grown_of_ext _ k2) (.inr (fun k hk => ?_))
      obtain ⟨_, h2'⟩ := k1
      rcases h2' with h | ⟨g', cap', cur', rfl, hg', r⟩
      · rw [h.1] at hk; simp [Value.ownBlock] at hk
      · simp [Value.ownBlock] at hk
        omega

/-- append of one row in a region that draws: the queue as it lay in w1, the row as it lies in w2 -/
theorem step_shq_app {ops : Array Oper} {o : Oper} {a : Act} {K : Act → World → Prop} {Q : Exit → Act → World → Prop} {Ex : Prop} {w : World} (hgd : o.guard = none) (s x : Operand)
    (ho : o.op = Op.call { callee := Callee.builtin Builtin.append, args := #[s, x], argTypes := #[23, 23] }) (bad : Nat → Prop) (B : Nat) (v u : Value) (xs : List (List Int)) (y : List Int) (hs : a.eval s = v) (w0 : World) (hown : ShQ bad B w0 v xs)
    (hw : w = w0.alloc (.cells #[u] 22)) (hu : Ints (fun k => ¬ bad k ∧ v.ownBlock ≠ some k) w0 u y) (hx : a.eval x = .slice (some ⟨w0.heap.size, 0, none⟩) 1 1) (hlen : xs.length ≤ 1000000) (hbase : B ≤ w0.heap.size)
    (h : ∀ v' w', ShQ bad B w' v' (xs ++ [y]) → w0.grownBy w' v.ownBlock → (v'.ownBlock = v.ownBlock ∨ ∀ k, v'.ownBlock = some k → w0.heap.size ≤ k) → K (a.put o.dst v') w') :
    if Region.wanted o (yielded ops a.tmps) = true then Oper.wp Tryz.prog o a w K Q else Ex := by
  subst hw
  obtain ⟨vs, hl, hq, hr⟩ := hown
  have hga : Ext w0 (w0.alloc (.cells #[u] 22)) := World.grownBy_alloc _ _ _
  have hlt := hq.lt
  have hq2 : QOwn B 22 (w0.alloc (.cells #[u] 22)) v vs := hq.kept (fun k hk => hga.block k (hlt k hk).2 (by simp))
  have hone : u.oneCell' = true := rdInts.one hu
  refine step_q_app 23 22 (.slice none 0 0) 24 und_rows Tryz.infoRow rfl (by decide) hgd s x ho B v vs hs hq2 w0.heap.size u hx (by rw [World.cell?_alloc_at _ _ _ _ rfl]; rfl) hone (by omega) (by have := hga.size; omega) ?_
  intro v' w' h1 h2 h3
  have hg2 : w0.grownBy w' v.ownBlock := grown_trans (grown_of_ext _ hga) h2
  have hnew : ∀ k, k < w0.heap.size → v'.ownBlock = some k → v.ownBlock = some k := fun k hk e => by
    rcases h3 with h | h
    · rw [← h]; exact e
    · have := h k e; simp at this; omega
  refine h v' w' ⟨vs ++ [u], by simp [hl], h1, fun i hi => ?_⟩ hg2 (h3.imp id (fun h k hk => by have := h k hk; simp at this; omega))
  simp only [List.length_append, List.length_singleton] at hi
  have hfr : ∀ k, (¬ bad k ∧ v.ownBlock ≠ some k) → k < w0.heap.size → (¬ bad k ∧ v'.ownBlock ≠ some k) ∧ k < w'.heap.size ∧ w'.heap[k]? = w0.heap[k]? := fun k hk hlt =>
    ⟨⟨hk.1, fun e => hk.2 (hnew k hlt e)⟩, Nat.lt_of_lt_of_le hlt hg2.size, hg2.block k hlt (fun e => hk.2 e.symm)⟩
  by_cases hlt : i < xs.length
  · rw [gt_append_left _ _ _ (by omega), gt_append_left _ _ _ hlt]
    exact Ints.mono (hr i hlt) hfr
  · have hi2 : i = xs.length := by omega
    subst hi2
    rw [gt_concat, ← hl, gt_concat]
    exact Ints.mono hu hfr

/-- v[l:] at a list of rows -/
theorem run_tail_rows (w : World) (a : Option Addr) (n cap : Nat) (k : Int) (h0 : 0 ≤ k) (h1 : k ≤ n) :
    (Instr.slice 23 (.slice a n cap) (some (.int .i64 k)) none none).run Tryz.prog w = .ok (subSl (.slice a n cap) k.toNat n) w := by
  rw [run_slice_l w 23 a n cap (by kernel_rfl) .i64 k h0 h1]
  have : (sizeOf (Tryz.prog.elem 23)).run Tryz.prog w = .ok 1 w := by kernel_rfl
  rw [this]
  simp [Result.andThen, sliced, subSl]

/-- the cells of a slice as a list -/
theorem Sl.vals {α : Type} [Inhabited α] {El : World → Value → α → Prop} {S : Nat → Prop} {w : World} {a : Option Addr} {n cap : Nat} {xs : List α} (h : Sl El S w (.slice a n cap) xs) :
    ∃ vs : List Value, vs.length = xs.length ∧ ∀ i, i < xs.length → (∃ b off, a = some ⟨b, off, none⟩ ∧ w.cell? ⟨b, off + i, none⟩ = some (gt vs i)) ∧ El w (gt vs i) (gt xs i) := by
  have h1 : ∀ i, ∃ u, i < xs.length → (∃ b off, a = some ⟨b, off, none⟩ ∧ w.cell? ⟨b, off + i, none⟩ = some u) ∧ El w u (gt xs i) := fun i => by
    by_cases hi : i < xs.length
    · obtain ⟨b, off, u, h1, _, _, h4, h5⟩ := h.at i hi
      exact ⟨u, fun _ => ⟨⟨b, off, h1, h4⟩, h5⟩⟩
    · exact ⟨undef, fun h => absurd h hi⟩
  obtain ⟨f, hf⟩ := Classical.axiomOfChoice h1
  refine ⟨(List.range xs.length).map f, by simp, fun i hi => ?_⟩
  have e : gt ((List.range xs.length).map f) i = f i := by simp [gt, hi]
  rw [e]
  exact hf i hi

set_option maxHeartbeats 400000 in
/-- slices.Clone at a list of rows: a new list of the same rows -/
theorem cloneRows_ok (w : World) (v : Value) (xs : List (List Int)) (S bad : Nat → Prop) (hv : Rows2 S w v xs) (hS : ∀ k, S k → k < w.heap.size → ¬ bad k) (hl : xs.length ≤ 1000000) :
    Calls Tryz.prog 135 #[v] w (Ret w fun w' r => ShQ bad w.heap.size w' r xs) := by
  obtain ⟨a, cap, rfl, _, _⟩ := Sl.shape hv
  have he := fun n => Lib.run_eql_slice_nil (P := Tryz.prog) w 23 22 a n cap 0 0 (by kernel_rfl)
  cases a with
  | none =>
    obtain ⟨rfl, rfl⟩ := Sl.nil_of_none hv
    clear hv hl
    go_enter Tryz.func135, Tryz.ntmps135
    go_wp2_with fail
    go_ret
    exact ⟨_, rfl, Ext.refl _, ShQ.nil _ _ _⟩
  | some a =>
    obtain ⟨vs, hvl, hvs⟩ := Sl.vals hv
    have hnews : ∀ w', Ext w w' → ∀ j, j < xs.length → ∃ b off, some a = some ⟨b, off, none⟩ ∧ w'.cell? ⟨b, off + j, none⟩ = some (gt vs j) := fun w' hg j hj => by
      obtain ⟨⟨b, off, h1, h2⟩, _⟩ := hvs j hj
      exact ⟨b, off, h1, hg.cell h2 (by simp)⟩
    have h1 : ∀ u, u ∈ vs → u.oneCell' = true := fun u hu => by
      obtain ⟨j, hj, rfl⟩ := List.getElem_of_mem hu
      rw [← gt_eq vs j hj]
      exact rdInts.one (hvs j (by omega)).2
    have hcl : ∀ (w1 : World) (v' : Value), OwnV w.heap.size 22 w1 v' vs → Ext w w1 → ShQ bad w.heap.size w1 v' xs := fun w1 v' ho hg => by
      refine ⟨vs, hvl, QOwn.of ho, fun i hi => Ints.mono (hvs i hi).2 (fun k hk hlt => ⟨⟨hS k hk hlt, fun e => ?_⟩, Nat.lt_of_lt_of_le hlt hg.size, hg.block k hlt (by simp)⟩)⟩
      have := (ho.lt k e).1; omega
    have HC := Lib.hid (And.intro hnews (And.intro h1 hcl)); clear hnews h1 hcl hvs
    go_enter Tryz.func135, Tryz.ntmps135
    go_wp2_with (at_builtin; refine wp_app 23 22 (.slice none 0 0) 24 und_rows Tryz.infoRow rfl (by decide) rfl _ _ rfl w.heap.size _ [] rfl (World.ownsRow_lit w #[] 0 (Nat.le_refl _) (by decide) rfl) (some a) xs.length cap vs rfl hvl (by simp) (HC.out.1 _ (World.grownBy_alloc _ _ _)) HC.out.2.1 (by simp; omega) (by simp) ?_; intro v' w1 ho1 hg1 hn1 hb1)
    go_ret
    have hg : Ext w w1 := grown_own (World.grownBy_alloc _ _ _) hg1 (fun j hj hlt => by have := own_blk hj; omega)
    exact ⟨_, rfl, hg, HC.out.2.2 w1 v' (by simpa using ho1) hg⟩

end Go.Proofs.YtdklekdpdbjfiaaGreat

/- (*impl.sequence).canonical. -/
namespace Go.Proofs.YtdklekdpdbjfiaaGreat
open Go.RowKit

theorem OwnV.weak {B B' E : Nat} {w : World} {v : Value} {vs : List Value} (h : OwnV B E w v vs) (hb : B' ≤ B) : OwnV B' E w v vs := by
  obtain ⟨h1, h2⟩ := h
  refine ⟨h1, ?_⟩
  rcases h2 with h | ⟨g, cap, cur, hv, hg, r⟩
  · exact .inl h
  · exact .inr ⟨g, cap, cur, hv, Nat.le_trans hb hg, r⟩

/-- append([]T{row}, rows...): the row made since -/
theorem wp_prep_row {ops : Array Oper} {rest : List Oper} {o : Oper} {a : Act} {Q : Exit → Act → World → Prop} {w : World} (hgd : o.guard = none) (s x : Operand)
    (ho : o.op = Op.call { callee := Callee.builtin Builtin.append, args := #[s, x], argTypes := #[23, 23] }) (B : Nat) (w1 w2 : World) (v u : Value) (xs : List (List Int)) (y : List Int) (hown : RowsO B w1 v xs) (hB : B ≤ w1.heap.size)
    (hg : Ext w1 w2) (hu : OwnIn (From w1.heap.size) w2 u y) (hw : w = w2.alloc (.cells #[u] 22)) (hs : a.eval s = .slice (some ⟨w2.heap.size, 0, none⟩) 1 1) (hx : a.eval x = v) (hlen : xs.length ≤ 1000000)
    (h : ∀ v' w', RowsO B w' v' (y :: xs) → Ext w1 w' → wpList Tryz.prog ops Q rest (a.put o.dst v') w') :
    wpList Tryz.prog ops Q (o :: rest) a w := by
  subst hw
  obtain ⟨vs, F, hvl, hO, hG, hd, hEx⟩ := hown
  have hga : Ext w2 (w2.alloc (.cells #[u] 22)) := World.grownBy_alloc _ _ _
  have hg1a := grown_trans hg hga
  have hO2 : OwnV B 22 (w2.alloc (.cells #[u] 22)) v vs := hO.kept hg1a (by cases hv : v.ownBlock <;> simp)
  have hlit : OwnV w2.heap.size 22 (w2.alloc (.cells #[u] 22)) (.slice (some ⟨w2.heap.size, 0, none⟩) 1 1) [u] := World.ownsRow_lit w2 #[u] 1 (Nat.le_refl _) (by decide) rfl
  have hsz := hg.size
  have hshape : ∃ sa c, v = .slice sa vs.length c ∧ (sa = none → c = 0) ∧ ∀ j, j < vs.length → ∃ b off, sa = some ⟨b, off, none⟩ ∧ (w2.alloc (.cells #[u] 22)).cell? ⟨b, off + j, none⟩ = some (gt vs j) := by
    rcases hO2.form with ⟨rfl, h2⟩ | ⟨g, cp, rfl, _⟩
    · exact ⟨none, 0, by rw [h2]; rfl, fun _ => rfl, fun j hj => by rw [h2] at hj; simp at hj⟩
    · exact ⟨_, _, rfl, fun h => by simp at h, fun j hj => ⟨g, 0, rfl, by rw [Nat.zero_add]; exact hO2.cell j hj⟩⟩
  obtain ⟨sa, c, hv, hc0, hcells⟩ := hshape
  refine wp_app 23 22 (.slice none 0 0) 24 und_rows Tryz.infoRow rfl (by decide) hgd s x ho w2.heap.size _ [u] hs hlit sa vs.length c vs (hx.trans hv) rfl hc0 hcells ?_ (by simp; omega) hga.size ?_
  · intro u' hu'
    obtain ⟨j, hj, rfl⟩ := List.getElem_of_mem hu'
    rw [← gt_eq vs j hj]
    exact rdOwn.one (hEx j (by omega))
  · intro v' w' k1 k2 _ _
    have hg2 : Ext w2 w' := grown_own hga k2 (fun j hj hlt => by have := own_blk hj; omega)
    have hg1 := grown_trans hg hg2
    have hv'b : ∀ k, v'.ownBlock = some k → w2.heap.size ≤ k := fun k hk => (k1.lt k hk).1
    refine h v' w' ⟨[u] ++ vs, fun i k => if i = 0 then w1.heap.size ≤ k ∧ k < w2.heap.size else F (i - 1) k ∧ k < w1.heap.size, by simp [hvl], ?_, ?_, ?_, ?_⟩ hg1
    · exact OwnV.weak k1 (by omega)
    · intro i k hi hk
      split at hk
      · exact ⟨by omega, fun e => by have := hv'b k e; omega, Nat.lt_of_lt_of_le hk.2 hg2.size⟩
      · rename_i h0
        simp only [List.length_cons] at hi
        obtain ⟨a1, a2, a3⟩ := hG (i - 1) k (by omega) hk.1
        exact ⟨a1, fun e => by have := hv'b k e; omega, Nat.lt_of_lt_of_le a3 hg1.size⟩
    · intro i j k hi hj hk hk'
      simp only [List.length_cons] at hi hj
      split at hk <;> split at hk'
      · omega
      · omega
      · omega
      · have := hd (i - 1) (j - 1) k (by omega) (by omega) hk.1 hk'.1; omega
    · intro i hi
      simp only [List.length_cons] at hi
      by_cases h0 : i = 0
      · subst h0
        simp only [if_true]
        exact rdOwn.mono hu (fun k hk hkl => ⟨⟨hk, hkl⟩, Nat.lt_of_lt_of_le hkl hg2.size, hg2.block k hkl (by simp)⟩)
      · simp only [if_neg h0]
        have e1 : gt ([u] ++ vs) i = gt vs (i - 1) := by
          obtain ⟨j, rfl⟩ : ∃ j, i = j + 1 := ⟨i - 1, by omega⟩
          simp [gt]
        have e2 : gt (y :: xs) i = gt xs (i - 1) := by
          obtain ⟨j, rfl⟩ : ∃ j, i = j + 1 := ⟨i - 1, by omega⟩
          simp [gt]
        rw [e1, e2]
        exact rdOwn.mono (hEx (i - 1) (by omega)) (fun k hk hkl => ⟨⟨hk, hkl⟩, Nat.lt_of_lt_of_le hkl hg1.size, hg1.block k hkl (by simp)⟩)

set_option maxRecDepth 100000 in
set_option maxHeartbeats 1000000 in
theorem canonical_ok (P : Pr) (G : Grp P) (w : World) (sb gb B : Nat) (p : Value) (b : List (List Int)) (H : List Int → Prop) (Sp bad : Nat → Prop) (hp : PresP Sp w p P) (hs : SeqAt B bad w sb gb p P.orders.length b) (hI : Ind P H (gt b)) :
    Calls Tryz.prog 124 #[.pointer (some ⟨sb, 0, none⟩)] w (Ret w fun w' v => RowsO w.heap.size w' v (cseq P H)) := by
  have hP := G.v
  have hn6 := hP.n6
  obtain ⟨pb, po, rfl⟩ := hp.shape
  have hc0 := hs.c0
  have hc1 := hs.c1
  have HI := Lib.hid hI; clear hI
  have hwn : IntKind.i64.wrap ((P.orders.length : Int) - 1) = (P.orders.length : Int) - 1 := IntWalk.i64_in _ (by omega)
  go_enter Tryz.func124, Tryz.ntmps124
  go_wp2
  clear hwn
  go_loopw [3, 4] (fun ov dv wr => ∃ (m : Nat) (r : Nat → List Int) (v4 : Value), v4 = ov ∧ dv = .int .i64 ((m : Int) - 1) ∧ m ≤ P.orders.length ∧ Ext w wr ∧ RowsO w.heap.size wr v4 (sq r (P.orders.length - m) m) ∧ Hid (CanInv P H (gt b) r m)) (fun _ dv _ => (intOf dv + 1).toNat)
  case atStart => exact ⟨P.orders.length, fun _ => [], _, rfl, rfl, Nat.le_refl _, Ext.refl _, by rw [Nat.sub_self]; exact SlO.nil _ _ _ _, Lib.hid ⟨fun e h1 h2 => by omega, fun e h1 h2 => by omega, fun e e' h1 h2 h3 => by omega⟩⟩
  case round =>
    obtain ⟨m, r, v4, rfl, rfl, hm, hg, hO, hC⟩ := hrel
    clear hc0 hc1
    by_cases hm0 : m = 0
    · subst hm0
      have hsl := sq_len r P.orders.length 0
      rw [G.can_end HI.out hC.out] at hsl
      rw [Nat.sub_zero, G.can_end HI.out hC.out] at hO
      have hneg : ((0 : Nat) : Int) - 1 = -1 := rfl
      rw [hneg]
      obtain ⟨az, capz, rfl, _⟩ := SlD.shape (hO.toD (by omega))
      go_wp2
      go_ret
      exact ⟨_, rfl, hg, hO⟩
    · obtain ⟨d, rfl⟩ : ∃ d, m = d + 1 := ⟨m - 1, by omega⟩
      obtain ⟨k, hk⟩ : ∃ k, k = P.orders.length - (d + 1) := ⟨_, rfl⟩
      rw [← hk] at hO
      have hkn : d + 1 + k = P.orders.length := by omega
      have hkd : P.orders.length - d = k + 1 := by omega
      rw [show (((d + 1 : Nat)) : Int) - 1 = d by omega]
      have hdn : (d : Int) < P.orders.length := by omega
      have hd0 : (0 : Int) ≤ d := by omega
      have hwd : IntKind.i64.wrap ((d : Int) - 1) = (d : Int) - 1 := IntWalk.i64_in _ (by omega)
      have hsr := hs.ext hg
      have hc0 := hsr.c0
      have hc1 := hsr.c1
      have hsl := sq_len r k (d + 1)
      have hk6 : k ≤ 6 := by omega
      have HK := Lib.hid (And.intro hkn hkd); clear hkn hkd hk hm0
      obtain ⟨_, hcc⟩ := hsr.tab.at d (by omega)
      rcases hcc with ⟨h0, hcell⟩ | ⟨hne, ab, capb, hcell, hbI⟩
      · obtain ⟨hC2, hq2⟩ := can_skip (k := k) hC.out h0
        have HC2 := Lib.hid (And.intro hC2 hq2); clear hC2 hq2 h0
        go_wp2
        go_roundw
        case rel => exact ⟨d, _, v4, rfl, rfl, by omega, hg, by rw [HK.out.2, HC2.out.2]; exact hO, Lib.hid HC2.out.1⟩
        case measure => simp [intOf]
      · have hO4 := hO.toD (by omega)
        obtain ⟨az, capz, hvz, _, _⟩ := SlD.shape hO4
        subst hvz
        have hU := RowsD.rows hO4
        have hSq := hC.out.seqOk HK.out.1
        have hbm := (HI.out.mem d (by omega) hne).2.1.1
        have hpr := hp.ext hg
        have HX := Lib.hid (And.intro hSq (And.intro hbm hne)); clear hSq hbm hne
        have e1 : ∀ w', Ext wr w' → w'.cell? ⟨sb, 0, none⟩ = some (.pointer (some ⟨pb, po, none⟩)) := fun w' h => h.cell hc0 (by simp)
        have e2 : ∀ w', Ext wr w' → w'.cell? ⟨sb, 1, none⟩ = some (.slice (some ⟨gb, 0, none⟩) P.orders.length P.orders.length) := fun w' h => h.cell hc1 (by simp)
        have e3 : ∀ w', Ext wr w' → w'.cell? ⟨gb, d, none⟩ = some (.slice (some ab) (gt b d).length capb) := fun w' h => h.cell hcell (by simp)
        go_wp2
        go_region_held3 (fun w' => Ext wr w') (first | exact grown_drew _ _ | assumption)
          (first
            | (go_at_call 168; refine Calls.mono (Calls.rel (w0 := wr) (by assumption) (representative_ok P G _ _ _ _ (sq r k (d + 1)) (gt b d) Any Any Any (PresP.sub (PresP.ext hpr (by assumption)) (fun _ _ _ => trivial)) (Rows2.sub (Rows2.ext hU (by assumption)) (fun _ _ _ => trivial)) HX.out.1 (by omega) (Ints.sub (Ints.ext hbI (by assumption)) (fun _ _ _ => trivial)) HX.out.2.1)) ?_; rintro eY wY ⟨yv, rfl, hgY, hsY, Y, hOY, hRY⟩))
        have hYl : Y.length ≤ 6 := by rw [hRY.vec.1]; omega
        obtain ⟨hC2, hq2⟩ := G.can_step HI.out hC.out HK.out.1 HX.out.2.2 hRY
        have HC2 := Lib.hid (And.intro hC2 hq2); clear hC2 hq2
        have hYO : OwnIn (From wr.heap.size) wY yv Y := OwnIn.of hOY (by omega) (fun j h1 _ => Nat.le_trans hsY h1)
        obtain ⟨ay, capy, hvy, _, _⟩ := hYO.ints.shape
        subst hvy
        clear e1 e2 e3 hcell hc0 hc1 hRY
        go_wp2_with (first | (at_builtin; refine wp_prep_row rfl _ _ rfl w.heap.size wr wY _ _ (sq r k (d + 1)) Y hO hg.size hgY hYO rfl rfl rfl (by omega) ?_; intro v5 w5 hO5 hg5) | fail)
        go_roundw
        case rel => exact ⟨d, _, v5, rfl, rfl, by omega, grown_trans hg hg5, by rw [HK.out.2, HC2.out.2]; exact hO5, Lib.hid HC2.out.1⟩
        case measure => simp [intOf]

end Go.Proofs.YtdklekdpdbjfiaaGreat

/- (*impl.sequence).add. -/
namespace Go.Proofs.YtdklekdpdbjfiaaGreat
open Go.RowKit

theorem inverseMod_ret (a m : Int) (w : World) (hm : m = 2 ∨ m = 3 ∨ m = 5 ∨ m = 7) (h1 : 1 ≤ a) (h2 : a < m) :
    Calls Tryz.prog 189 #[.int .i64 a, .int .i64 m] w (Ret w fun _ v => ∃ k : Int, v = .tuple #[.int .i64 k, .bool true] ∧ 0 ≤ k ∧ k < m ∧ (k * a) % m = 1) :=
  (inverseMod_ok a m w hm h1 h2).mono (by rintro e w' ⟨⟨k, rfl, h⟩, rfl⟩; exact ⟨_, rfl, Ext.refl _, k, rfl, h⟩)

theorem q_kept {bad : Nat → Prop} {wI w2 : World} {v1 v2 : Value} (hg2 : wI.grownBy w2 v1.ownBlock) (hb2 : v2.ownBlock = v1.ownBlock ∨ ∀ k, v2.ownBlock = some k → wI.heap.size ≤ k) :
    ∀ k, (¬ bad k ∧ v1.ownBlock ≠ some k) → k < wI.heap.size → (¬ bad k ∧ v2.ownBlock ≠ some k) ∧ k < w2.heap.size ∧ w2.heap[k]? = wI.heap[k]? := fun k hk hlt =>
  ⟨⟨hk.1, fun e => by
    rcases hb2 with h | h
    · exact hk.2 (by rw [← h]; exact e)
    · have := h k e; omega⟩, Nat.lt_of_lt_of_le hlt hg2.size, hg2.block k hlt (fun e => hk.2 e.symm)⟩

theorem seq_kept {B sb gb n W : Nat} {pv : Value} {wI w2 : World} {v1 v2 : Value} {b : List (List Int)} (h : SeqAt B (fun k => v1.ownBlock = some k) wI sb gb pv n b) (hv : ∀ k, v1.ownBlock = some k → W ≤ k) (hgb : gb < W) (hsb : sb < W)
    (hg2 : wI.grownBy w2 v1.ownBlock) (hb2 : v2.ownBlock = v1.ownBlock ∨ ∀ k, v2.ownBlock = some k → wI.heap.size ≤ k) : SeqAt B (fun k => v2.ownBlock = some k) w2 sb gb pv n b := by
  refine h.kept hg2.size (fun k hk hc => hg2.block k hk (fun e => ?_)) (fun k hk e => ?_)
  · rcases hc with rfl | rfl | hc
    · have := hv _ e.symm; omega
    · have := hv _ e.symm; omega
    · exact hc e.symm
  · rcases hb2 with h | h
    · rw [← h]; exact e
    · have := h k e; omega

def AddPost (P : Pr) (H : List Int → Prop) (L b b' : List (List Int)) (g : Bool) : Prop :=
  Ind P (genP P (fun x => H x ∨ x ∈ L)) (gt b') ∧ (g = false → b' = b) ∧ (g = true → miss b' P.orders.length < miss b P.orders.length)

def AddSt (P : Pr) (H : List Int → Prop) (L b b' q : List (List Int)) (g : Bool) : Prop :=
  (∃ R, AddInv P (fun x => H x ∨ x ∈ L) (gt b') q R) ∧ (g = false → b' = b) ∧ (g = true → miss b' P.orders.length < miss b P.orders.length) ∧ miss b' P.orders.length ≤ miss b P.orders.length

set_option maxRecDepth 100000 in
set_option maxHeartbeats 2000000 in
theorem add_ok (P : Pr) (G : Grp P) (w : World) (sb gb B : Nat) (p lv : Value) (L b : List (List Int)) (H : List Int → Prop) (hp : PresP (fun k => k ≠ gb) w p P) (hs : SeqAt B (fun _ => False) w sb gb p P.orders.length b) (hI : Ind P H (gt b))
    (hL : ∀ x ∈ L, Vec P.orders x) (hl : Rows2 (fun k => ¬ (k = gb ∨ k = sb)) w lv L) (hlen : L.length ≤ 10000) :
    Calls Tryz.prog 123 #[.pointer (some ⟨sb, 0, none⟩), lv] w fun e w' => ∃ b' g, e = .returned (.bool g) ∧ w.grownBy w' (some gb) ∧ SeqAt B (fun _ => False) w' sb gb p P.orders.length b' ∧ AddPost P H L b b' g := by
  have hP := G.v
  have hn6 := hP.n6
  obtain ⟨pb, po, rfl⟩ := hp.shape
  obtain ⟨ao, capo, hco0, hoi⟩ := hp.ordAt
  obtain ⟨_, _, _, hpb, hpbl, _⟩ := hp.at
  have hgbs := hs.tab.lt
  have hpw : ∀ w', w.grownBy w' (some gb) → PresP (fun k => k ≠ gb) w' (.pointer (some ⟨pb, po, none⟩)) P := fun w' h => hp.mono (frame_of h (fun k hk _ => ⟨hk, fun e => hk (Option.some.inj e).symm⟩))
  have hc0w : ∀ w', w.grownBy w' (some gb) → w'.cell? ⟨sb, 0, none⟩ = some (.pointer (some ⟨pb, po, none⟩)) := fun w' h => (World.cell?_of_block (h.block sb hs.slt (by simpa using hs.ne))).trans hs.c0
  have hc1w : ∀ w', w.grownBy w' (some gb) → w'.cell? ⟨sb, 1, none⟩ = some (.slice (some ⟨gb, 0, none⟩) P.orders.length P.orders.length) := fun w' h => (World.cell?_of_block (h.block sb hs.slt (by simpa using hs.ne))).trans hs.c1
  have hc2w : ∀ w', w.grownBy w' (some gb) → w'.cell? ⟨pb, po, none⟩ = some (.slice ao P.orders.length capo) := fun w' h => (World.cell?_of_block (h.block pb hpbl (by simpa using hpb))).trans hco0
  have HW := Lib.hid (And.intro hpw (And.intro hc0w (And.intro hc1w hc2w))); clear hpw hc0w hc1w hc2w hco0
  have HI := Lib.hid (And.intro hI hL); clear hI hL
  go_enter Tryz.func123, Tryz.ntmps123
  go_wp2_with fail
  refine Calls.mono (cloneRows_ok w lv L _ (fun k => k = gb ∨ k = sb) hl (fun k hk _ => hk) (by omega)) ?_
  rintro e0 w0 ⟨qv0, rfl, hg0, hq0⟩
  go_wp2
  go_loopg [5, 6] (miss b P.orders.length * (P.orders.length + 3) + L.length) (fun gk gv qv wr => ∃ (b' q : List (List Int)) (g : Bool), gk ≤ 20000 ∧ gk = miss b' P.orders.length * (P.orders.length + 3) + q.length ∧ gv = .bool g ∧ w.grownBy wr (some gb) ∧
    SeqAt B (fun k => qv.ownBlock = some k) wr sb gb (.pointer (some ⟨pb, po, none⟩)) P.orders.length b' ∧ ShQ (fun k => k = gb ∨ k = sb) w.heap.size wr qv q ∧ Hid (AddSt P H L b b' q g))
  case atStart =>
    have hk0 : miss b P.orders.length * (P.orders.length + 3) + L.length ≤ 20000 := by
      have h3 : miss b P.orders.length * (P.orders.length + 3) ≤ 6 * 9 := Nat.mul_le_mul (by have := miss_le b P.orders.length; omega) (by omega)
      omega
    exact ⟨b, L, false, hk0, rfl, rfl, grown_of_ext _ hg0, hs.kept hg0.size (fun k hk _ => hg0.block k hk (by simp)) (fun k hk h => by have := (hq0.lt k h).1; omega), hq0, Lib.hid ⟨⟨_, G.addInv_start HI.out.1 HI.out.2⟩, fun _ => rfl, by simp, Nat.le_refl _⟩⟩
  case round =>
    obtain ⟨b', q, g, hgkb, hgk, rfl, hg, hsq, hq, hSt⟩ := hrel
    cases q with
    | nil =>
      obtain ⟨aq, capq, rfl, _⟩ := hq.shape
      go_wp2
      go_ret
      exact ⟨b', g, rfl, hg, hsq.kept (Nat.le_refl _) (fun _ _ _ => rfl) (fun _ _ h => h.elim), by obtain ⟨⟨R, hA⟩, h2, h3, _⟩ := hSt.out; exact ⟨G.addInv_end hA, h2, h3⟩⟩
    | cons y q =>
      obtain ⟨aq, capq, rfl, _⟩ := hq.shape
      obtain ⟨gq, off, u, rfl, hgB, hglt, hcell, hyI⟩ := ShQ.head hq 0 (by simp)
      obtain ⟨m, hm⟩ : ∃ m, m = (y :: q).length := ⟨_, rfl⟩
      rw [← hm] at hq hgk ⊢
      have hm1 : m = q.length + 1 := by rw [hm]; rfl
      have hyI : Ints (fun k => ¬ (k = gb ∨ k = sb) ∧ k ≠ gq) wr u y := hyI
      obtain ⟨ay, capy, rfl, _, _⟩ := hyI.shape
      have hmb : m ≤ 20000 := by omega
      have hc0 := HW.out.2.1 wr hg
      have hc1 := HW.out.2.2.1 wr hg
      rw [Nat.add_zero] at hcell
      have hmi : (0 : Int) < m := by omega
      have HM := Lib.hid (And.intro hgk (And.intro hm hm1)); clear hgk hm hm1
      have hyV : Vec P.orders y := by obtain ⟨⟨R, hA⟩, _⟩ := hSt.out; exact hA.vec _ (hA.que _ List.mem_cons_self)
      have htab : ∀ d, d < P.orders.length → gt b' d ≠ [] → T P d (gt b' d) ∧ gt (gt b' d) d = 1 := by obtain ⟨⟨R, hA⟩, _⟩ := hSt.out; exact fun d hd h => (hA.tab d hd h).2
      have HT := Lib.hid (And.intro hyV htab); clear hyV htab
      go_wp2_with fail
      refine Calls.mono (sift_ok P G wr sb gb B _ _ y b' _ _ _ (HW.out.1 wr hg) hsq HT.out.2 hyI HT.out.1) ?_
      rintro e1 w1 ⟨xv, rfl, hg1, Y, hYI, hYV, hYd, hΦ⟩
      have hgw1 := grown_trans hg (grown_of_ext (some gb) hg1)
      have hSt1 : Hid (AddSt P H L b b' (Y :: q) g) := by
        obtain ⟨⟨R, hA⟩, h2⟩ := hSt.out
        exact Lib.hid ⟨G.sift_add hA hΦ, h2⟩
      clear hΦ hSt hc0 hc1 hcell
      have hq1t : ShQ (fun k => k = gb ∨ k = sb) w.heap.size w1 (subSl (.slice (some ⟨gq, off, none⟩) m capq) 1 m) q := (hq.ext hg1).tail
      have hrt := run_tail_rows w1 (some ⟨gq, off, none⟩) m capq 1 (by omega) (by omega)
      have hown1 : ∀ k, (subSl (.slice (some ⟨gq, off, none⟩) m capq) 1 m).ownBlock = some k → k = gq := fun k hk => by
        have h3 := QOwn.own_tail k hk
        simp [Value.ownBlock] at h3; exact h3.symm
      rw [show (1 : Int).toNat = 1 from rfl] at hrt
      generalize subSl (.slice (some ⟨gq, off, none⟩) m capq) 1 m = qv1 at hq1t hrt hown1
      have hsq1 : SeqAt B (fun k => qv1.ownBlock = some k) w1 sb gb (.pointer (some ⟨pb, po, none⟩)) P.orders.length b' := (hsq.ext hg1).kept (Nat.le_refl _) (fun _ _ _ => rfl) (fun k _ h => by rw [hown1 k h]; rfl)
      have hYI2 : Ints (fun k => ¬ (k = gb ∨ k = sb) ∧ qv1.ownBlock ≠ some k) w1 xv Y := Ints.sub hYI (fun k hk _ => by
        have h1 := hs.slt
        have h2 := hg.size
        rcases hk with hk | hk
        · exact ⟨hk.1, fun e => hk.2 (hown1 k e)⟩
        · exact ⟨by omega, fun e => by have := hown1 k e; omega⟩)
      obtain ⟨a1, cap1, rfl, _⟩ := hq1t.shape
      obtain ⟨ax, capx, hv, _, _⟩ := hYI2.shape
      rw [hYV.1] at hv
      subst hv
      clear hsq hq hyI hYI hown1
      have HY := Lib.hid (And.intro hYV hYd); clear hYV hYd
      by_cases hdn : dep Y = P.orders.length
      · have hSt2 : Hid (AddSt P H L b b' q g) := by
          obtain ⟨⟨R, hA⟩, h2⟩ := hSt1.out
          exact Lib.hid ⟨⟨R, addInv_drop hA ((dep_top hP HY.out.1).1 hdn)⟩, h2⟩
        clear hSt1
        go_wp2_with (go_at_call 188; refine Calls.mono (depthOf_ok _ Y w1 _ hYI2) ?_; rintro eD wD ⟨rfl, rfl⟩)
        go_roundg (gk - 1)
        case measure => have := HM.out; omega
        case rel => exact ⟨b', q, g, by omega, by have := HM.out; omega, rfl, hgw1, hsq1, hq1t, hSt2⟩
      · have hd : dep Y < P.orders.length := by have := dep_le Y; have := HY.out.1.1; omega
        have hTY := dep_T HY.out.1
        have hy0 := dep_ne (x := Y) (by rw [HY.out.1.1]; exact hd)
        have hb0 := HY.out.2 hd
        obtain ⟨d, hde⟩ : ∃ d, d = dep Y := ⟨_, rfl⟩
        rw [← hde] at hd hTY hy0 hb0 hdn
        have ho := hP.ord7 d hd
        have hpr := hP.ord d hd
        have hyd := hTY.1.2 d hd
        have hyd1 : 1 ≤ gt Y d := by omega
        obtain ⟨bx, ox, rfl, _, _, hcx⟩ := Ints.at hYI2 d (by rw [HY.out.1.1]; exact hd)
        obtain ⟨b2, off2, rfl, hb2, hlt2, hcord⟩ := Ints.at hoi d hd
        have c1 : ∀ w', w.grownBy w' (some gb) → w'.cell? ⟨b2, off2 + d, none⟩ = some (.int .i64 (gt P.orders d)) := fun w' h => (World.cell?_of_block (h.block b2 hlt2 (by simpa using hb2))).trans hcord
        have HD := Lib.hid (And.intro hde (And.intro hTY (And.intro hb0 (And.intro c1 (And.intro hpr hdn))))); clear hTY hy0 hb0 c1 hpr hcord hdn
        have e1 : ∀ w', Ext w1 w' → w'.cell? ⟨sb, 0, none⟩ = some (.pointer (some ⟨pb, po, none⟩)) := fun w' h => HW.out.2.1 w' (grown_trans hgw1 (grown_of_ext _ h))
        have e2 : ∀ w', Ext w1 w' → w'.cell? ⟨pb, po, none⟩ = some (.slice (some ⟨b2, off2, none⟩) P.orders.length capo) := fun w' h => HW.out.2.2.2 w' (grown_trans hgw1 (grown_of_ext _ h))
        have e3 : ∀ w', Ext w1 w' → w'.cell? ⟨b2, off2 + d, none⟩ = some (.int .i64 (gt P.orders d)) := fun w' h => HD.out.2.2.2.1 w' (grown_trans hgw1 (grown_of_ext _ h))
        have e4 : ∀ w', Ext w1 w' → w'.cell? ⟨bx, ox + d, none⟩ = some (.int .i64 (gt Y d)) := fun w' h => h.cell hcx (by simp)
        have q1 : (d : Int) < P.orders.length := by omega
        have q2 : (0 : Int) ≤ d := by omega
        have q3 : ((d : Int) == (P.orders.length : Int)) = false := by simp; omega
        have hdc : Calls Tryz.prog 188 #[.slice (some ⟨bx, ox, none⟩) P.orders.length capx] w1 (fun e w' => e = .returned (.int .i64 d) ∧ w1 = w') := by rw [hde]; exact depthOf_ok _ Y w1 _ hYI2
        clear hde
        go_wp2_with (go_at_call 188; refine Calls.mono hdc ?_; rintro eD wD ⟨rfl, rfl⟩)
        go_region_held3 (fun w' => Ext w1 w') (first | exact grown_drew _ _ | assumption)
          (first
            | (go_at_call 189; refine Calls.mono (Calls.rel (w0 := w1) (by assumption) (inverseMod_ret (gt Y d) (gt P.orders d) _ HD.out.2.2.2.2.1 hyd1 hyd.2)) ?_; rintro eI wI ⟨vI, rfl, hgI, hsI, kk, rfl, hk0, hk1, hkm⟩; have HK := Lib.hid hkm; clear hkm))
        clear e1 e2 e3 e4 hdc hrt
        have hgwI := grown_trans hgw1 (grown_of_ext (some gb) hgI)
        have hqI := hq1t.ext hgI
        have hsqI := hsq1.ext hgI
        have hYI3 := hYI2.ext hgI
        have hqlt : ∀ k, (Value.slice a1 q.length cap1).ownBlock = some k → w.heap.size ≤ k := fun k hk => (hqI.lt k hk).1
        have hql : q.length ≤ 20000 := by have := HM.out.2.2; omega
        clear hq1t hsq1 hYI2 hcx
        go_wp2_with (first | (at_builtin; refine wp_shq_app rfl _ _ rfl (fun k => k = gb ∨ k = sb) w.heap.size _ _ q Y rfl wI hqI rfl hYI3 rfl (by omega) hgwI.size ?_; intro v2 w2 hq2 hg2 hb2; have hgw2 := grown_own hgwI hg2 (fun j hj hlt => by have := hqlt j hj; omega); have hc02 := HW.out.2.1 w2 hgw2) | fail)
        have hsq2 := seq_kept hsqI hqlt hgbs.2 hs.slt hg2 hb2
        have hYI4 := Ints.mono hYI3 (q_kept hg2 hb2)
        clear hqI hsqI hYI3
        refine Calls.mono (power_ok P hP w2 _ _ Y kk _ _ (HW.out.1 w2 hgw2) hYI4 HY.out.1 (by omega)) ?_
        rintro eZ wZ ⟨zv, rfl, hgZ, hOZ⟩
        have eZ : iPow P Y kk = pw P Y kk.toNat := G.iPow_eq HY.out.1 kk
        rw [eZ] at hOZ
        clear eZ
        obtain ⟨Z, hZ⟩ : ∃ Z, Z = pw P Y kk.toNat := ⟨_, rfl⟩
        rw [← hZ] at hOZ
        have hZV : Vec P.orders Z := by rw [hZ]; exact G.pw_vec HY.out.1 _
        have HZ := Lib.hid hZ; clear hZ
        have hgwZ := grown_trans hgw2 (grown_of_ext (some gb) hgZ)
        have hqZ := hq2.ext hgZ
        have hsqZ := hsq2.ext hgZ
        have hZI : Ints (fun k => ¬ (k = gb ∨ k = sb) ∧ v2.ownBlock ≠ some k) wZ zv Z := ints_of_own hOZ (by rw [hZV.1]; omega) (fun k hk => by
          have h1 := (hOZ.lt k hk).1
          have h2 := hs.slt
          have h3 := hgw2.size
          exact ⟨by omega, fun e => by have := (hq2.lt k e).2; omega⟩)
        have hqlt2 : ∀ k, v2.ownBlock = some k → w.heap.size ≤ k := fun k hk => (hqZ.lt k hk).1
        clear hq2 hsq2 hYI4 hg2 hb2
        obtain ⟨az, capz, hv, _, _⟩ := hZI.shape
        rw [hZV.1] at hv
        subst hv
        have HZV := Lib.hid hZV; clear hZV
        have hTV : Vec P.orders (pw P Z (gt P.orders d).toNat) := G.pw_vec HZV.out _
        have hTl : (pw P Z (gt P.orders d).toNat).length ≤ 6 := by rw [hTV.1]; omega
        have hTe : iPow P Z (gt P.orders d) = pw P Z (gt P.orders d).toNat := G.iPow_eq HZV.out _
        have HTV := Lib.hid (And.intro hTl hTe); clear hTl hTe hTV
        have e1 : ∀ w', w.grownBy w' (some gb) → w'.cell? ⟨sb, 0, none⟩ = some (.pointer (some ⟨pb, po, none⟩)) := HW.out.2.1
        have e2 : ∀ w', w.grownBy w' (some gb) → w'.cell? ⟨pb, po, none⟩ = some (.slice (some ⟨b2, off2, none⟩) P.orders.length capo) := HW.out.2.2.2
        have e3 : ∀ w', w.grownBy w' (some gb) → w'.cell? ⟨b2, off2 + d, none⟩ = some (.int .i64 (gt P.orders d)) := HD.out.2.2.2.1
        go_wp2
        go_region_held3 (fun w' => w.grownBy w' (some gb)) (first | exact grown_trans hgwZ (grown_drew _ _) | assumption | exact grown_trans hgwT (World.grownBy_alloc _ _ _))
          (first
            | (go_at_call 190; refine Calls.mono (Calls.rel2 (w0 := wZ) (grown_drew _ _) (power_ok P hP _ _ _ Z (gt P.orders d) _ _ ((HW.out.1 wZ hgwZ).ext (grown_drew _ _)) (hZI.ext (grown_drew _ _)) HZV.out (by omega))) ?_; rintro eT wT ⟨vT, rfl, hgT, hgT2, hsT, hOT⟩; have hgwT := grown_trans hgwZ (grown_of_ext (some gb) hgT); rw [HTV.out.2] at hOT; have hTI : Ints (fun k => ¬ (k = gb ∨ k = sb) ∧ v2.ownBlock ≠ some k) wT vT (pw P Z (gt P.orders d).toNat) := ints_of_own hOT (by have := HTV.out.1; omega) (fun k hk => by
                have h1 := (hOT.lt k hk).1
                have h2 := hs.slt
                have h3 := hgwZ.size
                exact ⟨by omega, fun e => by have := (hqZ.lt k e).2; omega⟩); obtain ⟨aT, capT, hvT, _, _⟩ := hTI.shape; subst hvT)
            | (refine step_shq_app rfl _ _ rfl (fun k => k = gb ∨ k = sb) w.heap.size v2 _ (q ++ [Y]) _ rfl wT (hqZ.ext hgT) rfl hTI rfl (by simp; omega) hgwT.size ?_; intro v3 w3 hq3 hg3 hb3; have hgw3 := grown_own hgwT hg3 (fun j hj hlt => by have := hqlt2 j hj; omega)))
        clear e1 e2 e3
        have hsq3 := seq_kept (hsqZ.ext hgT) hqlt2 hgbs.2 hs.slt hg3 hb3
        have hZI3 := Ints.mono (hZI.ext hgT) (q_kept hg3 hb3)
        have hc13 := HW.out.2.2.1 w3 hgw3
        have hc03 := HW.out.2.1 w3 hgw3
        obtain ⟨T1, hT1⟩ : ∃ T1, T1 = pw P Z (gt P.orders d).toNat := ⟨_, rfl⟩
        rw [← hT1] at hq3
        have HT1 := Lib.hid hT1; clear hT1
        clear hqZ hsqZ hZI hTI hOT hOZ hg3 hb3
        go_wp2
        clear hc13 hc03
        go_loopw [6, 84] (fun qv iv wr2 => ∃ (k : Nat) (v4 : Value), v4 = qv ∧ iv = .int .i64 k ∧ k ≤ P.orders.length ∧ w.grownBy wr2 (some gb) ∧ SeqAt B (fun j => v4.ownBlock = some j) wr2 sb gb (.pointer (some ⟨pb, po, none⟩)) P.orders.length b' ∧
          ShQ (fun k => k = gb ∨ k = sb) w.heap.size wr2 v4 (q ++ [Y] ++ [T1] ++ coms P b' Z k) ∧ Ints (fun j => ¬ (j = gb ∨ j = sb) ∧ v4.ownBlock ≠ some j) wr2 (.slice az P.orders.length capz) Z) (fun _ iv _ => P.orders.length - (intOf iv).toNat)
        case atStart => exact ⟨0, _, rfl, rfl, by omega, hgw3, hsq3, by simpa [coms] using hq3, hZI3⟩
        case round =>
          obtain ⟨k, v4, rfl, rfl, hk, hg4, hsq4, hq4, hZI4⟩ := hrel
          clear hsq3 hq3 hZI3
          have hqlt4 : ∀ j, v4.ownBlock = some j → w.heap.size ≤ j := fun j hj => (hq4.lt j hj).1
          by_cases hk2 : k < P.orders.length
          · obtain ⟨_, hcc⟩ := hsq4.tab.at k hk2
            rcases hcc with ⟨h0, hcell⟩ | ⟨hne, ab, capb, hcell, hbI⟩
            · have hcs : coms P b' Z (k + 1) = coms P b' Z k := by simp only [coms]; rw [if_pos h0, List.append_nil]
              have HC := Lib.hid hcs; clear hcs h0
              go_wp2
              go_roundw
              case rel => exact ⟨k + 1, v4, rfl, by go_num, by omega, hg4, hsq4, by rw [HC.out]; exact hq4, hZI4⟩
              case measure => simp [intOf]; omega
            · have hcs : coms P b' Z (k + 1) = coms P b' Z k ++ [comR P (gt b' k) Z] := by simp only [coms]; rw [if_neg hne]
              have hbV := (HT.out.2 k hk2 hne).1.1
              have hcV : Vec P.orders (comR P (gt b' k) Z) := G.mulV (G.invV (G.mulV HZV.out hbV)) (G.mulV hbV HZV.out)
              have HC := Lib.hid (And.intro hcs (And.intro hbV hcV)); clear hcs hbV hcV hne
              have hp0 := HW.out.2.1 wr hg4
              go_wp2_with fail
              refine Calls.mono (commutator_ok P G wr _ _ _ (gt b' k) Z _ _ _ (HW.out.1 wr hg4) hbI hZI4 HC.out.2.1 HZV.out) ?_
              rintro eC wC ⟨vC, rfl, hgC, hOC⟩
              have hOC : Own wr.heap.size wC vC (comR P (gt b' k) Z) := hOC
              have hCI : Ints (fun j => ¬ (j = gb ∨ j = sb) ∧ v4.ownBlock ≠ some j) wC vC (comR P (gt b' k) Z) := ints_of_own hOC (by rw [HC.out.2.2.1]; omega) (fun j hj => by
                have h1 := (hOC.lt j hj).1
                have h2 := hs.slt
                have h3 := hg4.size
                exact ⟨by omega, fun e => by have := (hq4.lt j e).2; omega⟩)
              have hgwC := grown_trans hg4 (grown_of_ext (some gb) hgC)
              obtain ⟨aC, capC, hvC, _, _⟩ := hCI.shape
              subst hvC
              have hcl := coms_len P b' Z k
              clear hOC hcell hp0
              go_wp2_with (first | (at_builtin; refine wp_shq_app rfl _ _ rfl (fun k => k = gb ∨ k = sb) w.heap.size v4 _ (q ++ [Y] ++ [T1] ++ coms P b' Z k) (comR P (gt b' k) Z) rfl wC (hq4.ext hgC) rfl hCI rfl (by simp; omega) hgwC.size ?_; intro v5 w5 hq5 hg5 hb5; have hgw5 := grown_own hgwC hg5 (fun j hj hlt => by have := hqlt4 j hj; omega)) | fail)
              go_roundw
              case rel => exact ⟨k + 1, v5, rfl, by go_num, by omega, hgw5, seq_kept (hsq4.ext hgC) hqlt4 hgbs.2 hs.slt hg5 hb5, by rw [HC.out.1, ← List.append_assoc]; exact hq5, Ints.mono (hZI4.ext hgC) (q_kept hg5 hb5)⟩
              case measure => simp [intOf]; omega
          · have hke : k = P.orders.length := by omega
            subst hke
            have hZne : Z ≠ [] := fun h => by have := HZV.out.1; rw [h] at this; simp at this; omega
            obtain ⟨hs5, hg5⟩ := hsq4.put d (u := .slice az P.orders.length capz) (y := Z) (Ints.sub hZI4 (fun j hj _ => ⟨fun e => hj.1 (.inl e), fun h => h.elim (fun e => hj.1 (.inr e)) hj.2⟩)) hZne
            obtain ⟨hfr, hcc⟩ := hsq4.tab.at d hd
            have hcd : wr.cell? ⟨gb, d, none⟩ = some (.slice none 0 0) := hcc.elim (fun h => h.2) (fun h => absurd HD.out.2.2.1 h.1)
            have hq5 : ShQ (fun k => k = gb ∨ k = sb) w.heap.size (wr.setCell ⟨gb, d, none⟩ (.slice az P.orders.length capz)) v4 (q ++ [Y] ++ [T1] ++ coms P b' Z P.orders.length) := hq4.kept hg5.size (fun j hj hc => hg5.block j hj (fun e => by
              have e := Option.some.inj e
              subst e
              rcases hc with hc | hc
              · have := hqlt4 _ hc; have := hgbs.2; omega
              · exact hc (.inl rfl))) (fun _ _ h => h)
            have hc1 := HW.out.2.2.1 wr hg4
            have hms := miss_set (b := b') (z := Z) HD.out.2.2.1 hZne P.orders.length (by rw [hsq4.tab.len]; exact Nat.le_refl _)
            rw [if_pos hd] at hms
            have hll : (q ++ [Y] ++ [T1] ++ coms P b' Z P.orders.length).length ≤ q.length + 2 + P.orders.length := by have := coms_len P b' Z P.orders.length; simp; omega
            have hmul : miss b' P.orders.length * (P.orders.length + 3) = miss (b'.set d Z) P.orders.length * (P.orders.length + 3) + (P.orders.length + 3) := by rw [← hms, Nat.add_mul, Nat.one_mul]
            have hSt5 : Hid (AddSt P H L b (b'.set d Z) (q ++ [Y] ++ [T1] ++ coms P b' Z P.orders.length) true) := by
              obtain ⟨⟨R, hA⟩, h2, h3, h4⟩ := hSt1.out
              have hst := G.add_step hA hd HD.out.2.1 HD.out.2.2.1 hsq4.tab.len kk hk0 HK.out
              rw [← HZ.out, ← HT1.out] at hst
              exact Lib.hid ⟨hst, by simp, fun _ => by omega, by omega⟩
            have hlt5 : miss (b'.set d Z) P.orders.length * (P.orders.length + 3) + (q ++ [Y] ++ [T1] ++ coms P b' Z P.orders.length).length < gk := by have := HM.out; omega
            have HX := Lib.hid (And.intro hll (And.intro hlt5 (And.intro hmul hms))); clear hll hmul hms hlt5 hSt1 hcc hq4 hsq4 hZI4
            have q1' : (d : Int) < P.orders.length := by omega
            go_wp2
            go_roundg (miss (b'.set d Z) P.orders.length * (P.orders.length + 3) + (q ++ [Y] ++ [T1] ++ coms P b' Z P.orders.length).length)
            case measure => exact HX.out.2.1
            case rel => exact ⟨b'.set d Z, _, true, by have := HX.out.2.1; omega, rfl, rfl, grown_trans hg4 hg5, hs5, hq5, hSt5⟩

end Go.Proofs.YtdklekdpdbjfiaaGreat

/- impl.generated. -/
namespace Go.Proofs.YtdklekdpdbjfiaaGreat
open Go.RowKit

section
variable {P : Pr} (G : Grp P)
include G

theorem Grp.inv_one : rInv P (zeros P.orders.length) = zeros P.orders.length := by
  have h := G.inv_mul G.oneV
  rwa [G.grp.er _ (G.invV G.oneV)] at h

theorem Grp.sub_one : Sub P (fun x => x = zeros P.orders.length) :=
  ⟨fun x h => by rw [h]; exact G.oneV, rfl, fun x y hx hy => by rw [hx, hy]; exact G.grp.el _ G.oneV, fun x h => by rw [h]; exact G.inv_one⟩

theorem Grp.ind_one : Ind P (fun x => x = zeros P.orders.length) (gt (List.replicate P.orders.length ([] : List Int))) :=
  ⟨G.sub_one, fun d hd h => absurd (by simp [gt, hd]) h, fun x hx d hd _ h0 => absurd (by rw [hx]; exact gt_replicate _ _) h0⟩

omit G in
theorem genP_one (Q : List Int → Prop) : genP P (fun x => x = zeros P.orders.length ∨ Q x) = genP P Q :=
  funext fun x => propext ⟨fun h K S hQ => h K S (fun y hy => hy.elim (fun e => by rw [e]; exact S.one) (hQ y)), fun h K S hQ => h K S (fun y hy => hQ y (.inr hy))⟩

end

set_option maxHeartbeats 400000 in
theorem generated_ok (P : Pr) (G : Grp P) (w : World) (p lv : Value) (L : List (List Int)) (Sp Sr : Nat → Prop) (hp : PresP Sp w p P) (hl : Rows2 Sr w lv L) (hL : ∀ x ∈ L, Vec P.orders x) (hlen : L.length ≤ 10000) :
    Calls Tryz.prog 72 #[p, lv] w (Ret w fun w' v => RowsO w.heap.size w' v (cseq P (genP P (fun x => x ∈ L)))) := by
  have hP := G.v
  have hn6 := hP.n6
  obtain ⟨pb, po, rfl⟩ := hp.shape
  obtain ⟨al, capl, rfl, _, _⟩ := Sl.shape hl
  have HL := Lib.hid hL; clear hL
  go_enter Tryz.func72, Tryz.ntmps72
  go_wp2_with fail
  refine Calls.mono (newSequence_ok P w _ Sp (fun _ => False) hp hn6) ?_
  rintro e1 w1 ⟨v1, rfl, hg1, sb, gb, rfl, hs⟩
  have hgb := hs.tab.lt
  have hsb := hs.sB
  go_wp2_with fail
  refine Calls.mono (add_ok P G w1 sb gb w.heap.size _ _ L _ (fun x => x = zeros P.orders.length) (hp.mono (fun k _ hlt => ⟨by omega, Nat.lt_of_lt_of_le hlt hg1.size, hg1.block k hlt (by simp)⟩)) hs G.ind_one HL.out (Rows2.mono hl (fun k _ hlt => ⟨by omega, Nat.lt_of_lt_of_le hlt hg1.size, hg1.block k hlt (by simp)⟩)) hlen) ?_
  rintro e2 w2 ⟨b2, g, rfl, hg2, hs2, hA, _, _⟩
  rw [genP_one] at hA
  have hgw2 : Ext w w2 := grown_own hg1 hg2 (fun j hj hlt => by cases hj; omega)
  have HA := Lib.hid hA; clear hA
  go_wp2_with fail
  refine Calls.mono (canonical_ok P G w2 sb gb w.heap.size _ b2 _ _ _ (hp.ext hgw2) hs2 HA.out) ?_
  rintro e3 w3 ⟨v3, rfl, hg3, hO⟩
  go_wp2
  go_ret
  exact ⟨_, rfl, grown_trans hgw2 hg3, hO.weak hgw2.size⟩

end Go.Proofs.YtdklekdpdbjfiaaGreat

/- impl.sameRows, impl.areSubgroups. -/
namespace Go.Proofs.YtdklekdpdbjfiaaGreat
open Go.RowKit

/-- u is the canonical sequence of a subgroup -/
def SubB (P : Pr) (u : List (List Int)) : Prop := (∀ x ∈ u, Vec P.orders x) ∧ u = cseq P (genP P (fun x => x ∈ u))

theorem Grp.cseq_len {P : Pr} (G : Grp P) {H : List Int → Prop} (S : Sub P H) : (cseq P H).length ≤ P.orders.length := by
  obtain ⟨r, _, h⟩ := G.cseq_spec S
  rw [h, sq_all]; exact sq_len _ _ _

theorem Grp.sub_len {P : Pr} (G : Grp P) {u : List (List Int)} (h : SubB P u) : u.length ≤ P.orders.length := by
  rw [h.2]; exact G.cseq_len (G.genP_sub h.1)

end Go.Proofs.YtdklekdpdbjfiaaGreat

/- Plain: a sequence as a table by depths, as the reference lays it; coset representatives, sifting and the reduced sequence by such a table. -/
namespace Go.Proofs.YtdklekdpdbjfiaaGreat

theorem pwZ_nat (P : Pr) (x : List Int) (k : Int) (hk : 0 ≤ k) : pwZ P x k = pw P x k.toNat := by
  unfold pwZ; rw [if_neg (by omega)]

/-- the first k rows, each at its depth -/
def tabTo (U : List (List Int)) (n : Nat) : Nat → List (List Int)
  | 0 => List.replicate n []
  | k + 1 => (tabTo U n k).set (dep (gt U k)) (gt U k)

theorem tabTo_len (U : List (List Int)) (n k : Nat) : (tabTo U n k).length = n := by
  induction k with
  | zero => simp [tabTo]
  | succ k ih => simp only [tabTo, List.length_set]; exact ih

theorem tabTo_at (P : Pr) (U : List (List Int)) : ∀ k, k ≤ U.length → ∀ d, d < P.orders.length →
    (gt (tabTo U P.orders.length k) d = [] ∧ ∀ j, j < k → dep (gt U j) ≠ d) ∨ ∃ j, j < k ∧ dep (gt U j) = d ∧ gt (tabTo U P.orders.length k) d = gt U j := by
  intro k
  induction k with
  | zero => intro _ d hd; exact .inl ⟨by simp [tabTo, gt, hd], fun j hj => by omega⟩
  | succ k ih =>
    intro hk d hd
    have hl := tabTo_len U P.orders.length k
    simp only [tabTo]
    by_cases h : dep (gt U k) = d
    · right
      exact ⟨k, by omega, h, by rw [h, gt_set_eq _ _ _ (by omega)]⟩
    · rw [gt_set_ne _ _ _ _ h]
      rcases ih (by omega) d hd with ⟨h1, h2⟩ | ⟨j, h1, h2, h3⟩
      · left
        refine ⟨h1, fun j hj => ?_⟩
        rcases Nat.lt_succ_iff_lt_or_eq.1 hj with hj | hj
        · exact h2 j hj
        · rw [hj]; exact h
      · right
        exact ⟨j, by omega, h2, h3⟩

/-- an entry is a vector or nothing -/
theorem tabTo_vec {P : Pr} {U : List (List Int)} (hU : SeqOk P U) (d : Nat) (hd : d < P.orders.length) (hne : gt (tabTo U P.orders.length U.length) d ≠ []) :
    T P d (gt (tabTo U P.orders.length U.length) d) ∧ gt (gt (tabTo U P.orders.length U.length) d) d = 1 := by
  rcases tabTo_at P U U.length (Nat.le_refl _) d hd with ⟨h, _⟩ | ⟨j, hj, hjd, he⟩
  · exact absurd h hne
  · obtain ⟨a, _, c⟩ := hU.1 _ (gtMem hj)
    rw [he, ← hjd]
    exact ⟨dep_T a, c⟩

/-- the reference's reduction: the first d entries are cleared -/
structure RedTo (P : Pr) (H : List Int → Prop) (b : List (List Int)) (X : List Int) (d : Nat) (Y : List Int) : Prop where
  vec : Vec P.orders Y
  cos : H (rMul P (rInv P X) Y)
  zer : ∀ e, e < d → gt b e ≠ [] → gt Y e = 0

/-- the reference's sifting: all entries before d are cleared -/
structure StripTo (P : Pr) (b : List (List Int)) (X : List Int) (d : Nat) (Y : List Int) : Prop where
  vec : T P d Y
  inv : ∀ Q q R, AddInv P Q (gt b) (X :: q) R → ∃ R', AddInv P Q (gt b) (Y :: q) R'

/-- the reference's way to the reduced sequence: the entries from m to e are cleared -/
structure FullTo (P : Pr) (r : Nat → List Int) (m : Nat) (X : List Int) (e : Nat) (Y : List Int) : Prop where
  vec : Vec P.orders Y
  zer : ∀ i, m ≤ i → i < e → r i ≠ [] → gt Y i = 0
  cos : ∀ K, Sub P K → (∀ i, m ≤ i → i < P.orders.length → r i ≠ [] → K (r i)) → K (rMul P (rInv P X) Y)
  old : ∀ k, (∀ i, m ≤ i → i < P.orders.length → r i ≠ [] → k < i) → gt Y k = gt X k

/-- the commutators of the reference: the new entry first -/
def comsR (P : Pr) (b : List (List Int)) (z : List Int) : Nat → List (List Int)
  | 0 => []
  | k + 1 => comsR P b z k ++ (if gt b k = [] then [] else [comR P z (gt b k)])

theorem comsR_len (P : Pr) (b : List (List Int)) (z : List Int) (k : Nat) : (comsR P b z k).length ≤ k := by
  induction k with
  | zero => exact Nat.le_refl _
  | succ k ih => simp only [comsR]; split <;> simp <;> omega

theorem mem_comsR {P : Pr} {b : List (List Int)} {z x : List Int} {k : Nat} : x ∈ comsR P b z k ↔ ∃ e, e < k ∧ gt b e ≠ [] ∧ x = comR P z (gt b e) := by
  induction k with
  | zero => simp [comsR]
  | succ k ih =>
    simp only [comsR, List.mem_append, ih]
    constructor
    · rintro (⟨e, h1, h2, h3⟩ | h)
      · exact ⟨e, by omega, h2, h3⟩
      · split at h
        · simp at h
        · rename_i hk
          simp at h
          exact ⟨k, by omega, hk, h⟩
    · rintro ⟨e, h1, h2, h3⟩
      rcases Nat.lt_succ_iff_lt_or_eq.1 h1 with h | h
      · exact .inl ⟨e, h, h2, h3⟩
      · subst h; right; rw [if_neg h2]; simp [h3]

section
variable {P : Pr} (G : Grp P)
include G

theorem Grp.ind_tab {H : List Int → Prop} (S : Sub P H) : Ind P H (gt (tabTo (cseq P H) P.orders.length (cseq P H).length)) := by
  obtain ⟨h1, h2, h3⟩ := G.seq_facts S
  refine ⟨S, fun d hd hne => ?_, fun x hx d hd hT h0 => ?_⟩
  · refine ⟨?_, tabTo_vec h1 d hd hne⟩
    rcases tabTo_at P _ _ (Nat.le_refl _) d hd with ⟨h, _⟩ | ⟨j, hj, _, he⟩
    · exact absurd h hne
    · rw [he]; exact h2 _ (gtMem hj)
  · obtain ⟨j, hj, hjd⟩ := h3 x hx d hd hT h0
    rcases tabTo_at P _ _ (Nat.le_refl _) d hd with ⟨_, h⟩ | ⟨i, hi, _, he⟩
    · exact absurd hjd (h j hj)
    · rw [he]
      intro hn
      have := (h1.1 _ (gtMem hi)).1.1
      rw [hn] at this; simp at this; omega

theorem Grp.redTo_zero {H : List Int → Prop} {b : List (List Int)} (S : Sub P H) {X : List Int} (hX : Vec P.orders X) : RedTo P H b X 0 X :=
  ⟨hX, by rw [G.inv_mul hX]; exact S.one, fun e he => by omega⟩

omit G in
theorem RedTo.skip {H : List Int → Prop} {b : List (List Int)} {X Y : List Int} {d : Nat} (h : RedTo P H b X d Y) (h0 : gt b d = [] ∨ gt Y d = 0) : RedTo P H b X (d + 1) Y :=
  ⟨h.vec, h.cos, fun e he hb => by
    rcases Nat.lt_succ_iff_lt_or_eq.1 he with h1 | h1
    · exact h.zer e h1 hb
    · subst h1; exact h0.elim (fun h => absurd h hb) id⟩

theorem Grp.redTo_step {H : List Int → Prop} {b : List (List Int)} (I : Ind P H (gt b)) {X Y : List Int} {d : Nat} (hX : Vec P.orders X) (hd : d < P.orders.length) (hb : gt b d ≠ []) (h : RedTo P H b X d Y) :
    RedTo P H b X (d + 1) (rMul P Y (pwZ P (gt b d) (-(gt Y d)))) := by
  obtain ⟨m1, m2, m3⟩ := I.mem d hd hb
  have hc := G.right_clear hd h.vec m2 m3
  refine ⟨hc.2.2, ?_, fun e he hbe => ?_⟩
  · rw [← G.ass (G.invV hX) h.vec (G.pwZ_vec m2.1 _)]
    exact I.sub.mul _ _ h.cos (I.sub.pwZ m1 _)
  · rcases Nat.lt_succ_iff_lt_or_eq.1 he with h1 | h1
    · rw [hc.2.1 e h1]; exact h.zer e h1 hbe
    · subst h1; exact hc.1

omit G in
theorem RedTo.rep {H : List Int → Prop} {b : List (List Int)} {X Y : List Int} (h : RedTo P H b X P.orders.length Y) : Rep P H (gt b) X Y := ⟨h.vec, h.cos, h.zer⟩

/-- a representative is neutral exactly for members -/
theorem Grp.rep_mem {H : List Int → Prop} {b : Nat → List Int} (I : Ind P H b) {X Y : List Int} (hX : Vec P.orders X) (h : Rep P H b X Y) : Y = zeros P.orders.length ↔ H X := by
  have hi := G.invV hX
  constructor
  · intro h0
    have h1 := h.2.1
    rw [h0, G.grp.er _ hi] at h1
    have := I.sub.inv _ h1
    rwa [G.inv_inv hX] at this
  · intro hx
    refine G.rep_one I hX h ⟨G.oneV, ?_, fun e _ _ => gt_replicate _ _⟩
    rw [G.grp.er _ hi]; exact I.sub.inv _ hx

omit G in
theorem stripTo_zero {b : List (List Int)} {X : List Int} (hX : Vec P.orders X) : StripTo P b X 0 X := ⟨T_zero.2 hX, fun _ _ R A => ⟨R, A⟩⟩

omit G in
theorem StripTo.skip {b : List (List Int)} {X Y : List Int} {d : Nat} (h : StripTo P b X d Y) (h0 : gt Y d = 0) : StripTo P b X (d + 1) Y := ⟨h.vec.up h0, h.inv⟩

theorem Grp.stripTo_step {b : List (List Int)} {X Y : List Int} {d : Nat} (hd : d < P.orders.length) (hb : gt b d ≠ []) (ht : T P d (gt b d) ∧ gt (gt b d) d = 1) (h0 : gt Y d ≠ 0) (h : StripTo P b X d Y) :
    StripTo P b X (d + 1) (rMul P Y (pwZ P (gt b d) (-(gt Y d)))) := by
  have hc := G.right_clear hd h.vec.1 ht.1 ht.2
  have hT : T P (d + 1) (rMul P Y (pwZ P (gt b d) (-(gt Y d)))) := T.up ⟨hc.2.2, fun k hk => by rw [hc.2.1 k hk]; exact h.vec.2 k hk⟩ hc.1
  have hp := G.pwZ_vec ht.1.1 (-(gt Y d))
  refine ⟨hT, fun Q q R A => ?_⟩
  obtain ⟨R1, A1⟩ := h.inv Q q R A
  refine ⟨_, addInv_sift A1 hd h.vec h0 hb hT (fun K S h1 h2 => ?_) (fun K S h1 h2 => S.mul _ _ h2 (S.pwZ h1 _))⟩
  have h3 := S.mul _ _ h2 (S.inv _ (S.pwZ h1 (-(gt Y d))))
  rwa [G.ass h.vec.1 hp (G.invV hp), G.mul_inv hp, G.grp.er _ h.vec.1] at h3

/-- an entry is put in its place, in the reference's order -/
theorem Grp.close_step {Q : List Int → Prop} {b q q' : List (List Int)} {R : List Int → Prop} {y : List Int} (A : AddInv P Q (gt b) (y :: q) R) {d : Nat} (hd : d < P.orders.length) (hT : T P d y) (hb : gt b d = []) (hlen : b.length = P.orders.length)
    (k : Int) (hk0 : 0 ≤ k) (hk : (k * gt y d) % gt P.orders d = 1) (hq' : ∀ x, x ∈ q' ↔ x ∈ q ∨ x = y ∨ x = pw P (pw P y k.toNat) (gt P.orders d).toNat ∨ x ∈ comsR P b (pw P y k.toNat) P.orders.length) :
    ∃ R', AddInv P Q (gt (b.set d (pw P y k.toNat))) q' R' := by
  obtain ⟨hz, hz1⟩ := G.lead_one hd hT k hk0 hk
  refine ⟨_, G.addInv_insert A hd hT hb hz hz1 (fun K S h => S.pw h _) (fun e he => ?_) (fun x hx => ?_) (fun x hx => ?_) (fun e he hbe => .inr ?_)⟩
  · by_cases h : e = d
    · subst h; rw [if_pos rfl, gt_set_eq _ _ _ (by omega)]
    · rw [if_neg h, gt_set_ne _ _ _ _ (fun h2 => h h2.symm)]
  · rcases (hq' x).1 hx with h | h | h | h
    · exact .inl h
    · exact .inr (.inl h)
    · exact .inr (.inr (.inr (.inl h)))
    · obtain ⟨e, h1, h2, h3⟩ := mem_comsR.1 h
      exact .inr (.inr (.inr (.inr ⟨e, h1, h2, .inr h3⟩)))
  · rw [hq']
    rcases hx with h | h | h
    · exact .inl h
    · exact .inr (.inl h)
    · exact .inr (.inr (.inl h))
  · rw [hq']
    exact .inr (.inr (.inr (mem_comsR.2 ⟨e, he, hbe, rfl⟩)))

theorem Grp.fullTo_zero {r : Nat → List Int} {m : Nat} {X : List Int} (hX : Vec P.orders X) : FullTo P r m X m X :=
  ⟨hX, fun i h1 h2 => by omega, fun K S _ => by rw [G.inv_mul hX]; exact S.one, fun _ _ => rfl⟩

omit G in
theorem FullTo.skip {r : Nat → List Int} {m e : Nat} {X Y : List Int} (h : FullTo P r m X e Y) (h0 : r e = [] ∨ gt Y e = 0) : FullTo P r m X (e + 1) Y :=
  ⟨h.vec, fun i h1 h2 hr => by
    rcases Nat.lt_succ_iff_lt_or_eq.1 h2 with h3 | h3
    · exact h.zer i h1 h3 hr
    · subst h3; exact h0.elim (fun h => absurd h hr) id, h.cos, h.old⟩

theorem Grp.fullTo_step {r : Nat → List Int} {m e : Nat} {X Y : List Int} (hX : Vec P.orders X) (hme : m ≤ e) (he : e < P.orders.length) (hr : r e ≠ []) (ht : T P e (r e) ∧ gt (r e) e = 1) (h : FullTo P r m X e Y) :
    FullTo P r m X (e + 1) (rMul P Y (pwZ P (r e) (-(gt Y e)))) := by
  have hc := G.right_clear he h.vec ht.1 ht.2
  refine ⟨hc.2.2, fun i h1 h2 hri => ?_, fun K S hK => ?_, fun k hk => by rw [hc.2.1 k (hk e hme he hr)]; exact h.old k hk⟩
  · rcases Nat.lt_succ_iff_lt_or_eq.1 h2 with h3 | h3
    · rw [hc.2.1 i h3]; exact h.zer i h1 h3 hri
    · subst h3; exact hc.1
  · rw [← G.ass (G.invV hX) h.vec (G.pwZ_vec ht.1.1 _)]
    exact S.mul _ _ (h.cos K S hK) (S.pwZ (hK e hme he hr) _)

omit G in
/-- what the reference's way gives is what the program's way gives -/
theorem FullTo.repTo {H : List Int → Prop} {b r : Nat → List Int} {d k : Nat} {X Y : List Int} (h : FullTo P r (d + 1) X P.orders.length Y) (C : CanInv P H b r (d + 1)) (hk : d + 1 + k = P.orders.length) :
    RepTo P (sq r k (d + 1)) X (sq r k (d + 1)).length Y := by
  refine ⟨h.vec, fun j hj => ?_, fun K S hK => h.cos K S (fun i h1 h2 h3 => hK _ (mem_sq.2 ⟨i, h1, by omega, h3, rfl⟩)), fun j hj => h.old j (fun i h1 h2 h3 => by
    have := hj _ (mem_sq.2 ⟨i, h1, by omega, h3, rfl⟩)
    rwa [C.dep h1 h2 h3] at this)⟩
  obtain ⟨e, h1, h2, h3, h4⟩ := mem_sq.1 (gtMem hj)
  rw [h4, C.dep h1 (by omega) h3]
  exact h.zer e h1 (by omega) h3

end

end Go.Proofs.YtdklekdpdbjfiaaGreat

/- Plain: generated subgroups of sets; intersections. -/
namespace Go.Proofs.YtdklekdpdbjfiaaGreat

theorem genP_self {P : Pr} {H : List Int → Prop} (S : Sub P H) : genP P H = H :=
  funext fun _ => propext ⟨fun h => h H S (fun _ hy => hy), fun h => genP_mem h⟩

theorem genP_or (P : Pr) (Q L : List Int → Prop) : genP P (fun x => genP P Q x ∨ L x) = genP P (fun x => Q x ∨ L x) :=
  funext fun _ => propext ⟨fun h K S hQ => h K S (fun y hy => hy.elim (fun h => h K S (fun z hz => hQ z (.inl hz))) (fun h => hQ y (.inr h))),
    fun h K S hQ => h K S (fun y hy => hy.elim (fun h => hQ y (.inl (genP_mem h))) (fun h => hQ y (.inr h)))⟩

theorem Sub.and {P : Pr} {H K : List Int → Prop} (S : Sub P H) (R : Sub P K) : Sub P (fun x => H x ∧ K x) :=
  ⟨fun _ h => S.vec _ h.1, ⟨S.one, R.one⟩, fun _ _ h k => ⟨S.mul _ _ h.1 k.1, R.mul _ _ h.2 k.2⟩, fun _ h => ⟨S.inv _ h.1, R.inv _ h.2⟩⟩

theorem Grp.genP_none {P : Pr} (G : Grp P) : genP P (fun _ => False) = fun x => x = zeros P.orders.length :=
  funext fun _ => propext ⟨fun h => h _ G.sub_one (fun _ h => h.elim), fun h K S _ => by rw [h]; exact S.one⟩

/-- the members of a list that lie in a set, and the subgroup that they generate -/
theorem genP_list {P : Pr} {H : List Int → Prop} (S : Sub P H) {L : List (List Int)} (h : ∀ x, x ∈ L ↔ H x) : genP P (fun x => x ∈ L) = H := by
  have : (fun x => x ∈ L) = H := funext fun x => propext (h x)
  rw [this]; exact genP_self S

/-- a sequence generates its subgroup -/
theorem Grp.genP_cseq {P : Pr} (G : Grp P) {H : List Int → Prop} (S : Sub P H) : genP P (fun x => x ∈ cseq P H) = H := by
  have hm := G.seq_facts S
  have hV : ∀ y, y ∈ cseq P H → Vec P.orders y := fun y hy => S.vec y (hm.2.1 y hy)
  refine funext fun x => propext ⟨fun h => h H S hm.2.1, fun h => ?_⟩
  exact elsP_sub (G.genP_sub hV) (fun z hz => genP_mem hz) _ (Nat.le_refl _) x ((G.elsP_mem S hm.1 hm.2.1 hm.2.2 x).2 h)

/-- what the list of a subgroup generates is a subgroup, of which the list is the sequence -/
theorem Grp.subB {P : Pr} (G : Grp P) {u : List (List Int)} (h : SubB P u) : Sub P (genP P (fun x => x ∈ u)) := G.genP_sub h.1

theorem Grp.subB_cseq {P : Pr} (G : Grp P) {H : List Int → Prop} (S : Sub P H) : SubB P (cseq P H) :=
  ⟨fun x hx => S.vec x ((G.seq_facts S).2.1 x hx), by rw [G.genP_cseq S]⟩

end Go.Proofs.YtdklekdpdbjfiaaGreat

/- Plain: a group of order at most 32 has at most 17408 subgroups (a crude bound). -/
namespace Go.Proofs.YtdklekdpdbjfiaaGreat

theorem flatMap_len' {α β : Type} (l : List α) (f : α → List β) (n : Nat) (h : ∀ x ∈ l, (f x).length = n) : (l.flatMap f).length = l.length * n := by
  induction l with
  | nil => simp
  | cons a l ih =>
    rw [List.flatMap_cons, List.length_append, h a (List.mem_cons_self ..), ih (fun x hx => h x (List.mem_cons_of_mem _ hx)), List.length_cons, Nat.succ_mul]; omega
/-- a list without doubles whose members lie in another one is no longer -/
theorem nodup_sub_len {α : Type} : ∀ (l m : List α), l.Nodup → (∀ x ∈ l, x ∈ m) → l.length ≤ m.length
  | [], m, _, _ => by simp
  | a :: l, m, hn, hs => by
    obtain ⟨m1, m2, rfl⟩ := List.append_of_mem (hs a (List.mem_cons_self ..))
    have hn' := List.nodup_cons.1 hn
    have := nodup_sub_len l (m1 ++ m2) hn'.2 (fun x hx => by
      have h1 := hs x (List.mem_cons_of_mem _ hx)
      rw [List.mem_append, List.mem_cons] at h1
      rw [List.mem_append]
      rcases h1 with h1 | h1 | h1
      · exact .inl h1
      · subst h1; exact absurd hx hn'.1
      · exact .inr h1)
    simp only [List.length_append, List.length_cons] at *
    omega

end Go.Proofs.YtdklekdpdbjfiaaGreat

/- impl.sizeOf. -/
namespace Go.Proofs.YtdklekdpdbjfiaaGreat
open Go.RowKit

def prodU (P : Pr) (U : List (List Int)) : Nat → Int
  | 0 => 1
  | k + 1 => prodU P U k * gt P.orders (dep (gt U k))

theorem prodU_le {P : Pr} (hP : Valid P) {U : List (List Int)} (hU : SeqOk P U) : ∀ k m, k ≤ U.length → (∀ j, j < k → dep (gt U j) < m) → m ≤ P.orders.length → 1 ≤ prodU P U k ∧ prodU P U k ≤ prodTo P.orders m := by
  intro k
  induction k with
  | zero => intro m _ _ hm; exact ⟨by simp [prodU], prodTo_pos m (fun i hi => hP.pos i (by omega))⟩
  | succ k ih =>
    intro m hk hj hm
    have hd := hj k (by omega)
    have hlt : k < U.length := by omega
    obtain ⟨h1, h2⟩ := ih (dep (gt U k)) (by omega) (fun j hj => hU.2 j k hj hlt) (by omega)
    have ho := hP.ord7 (dep (gt U k)) (by omega)
    have h3 : prodU P U k * gt P.orders (dep (gt U k)) ≤ prodTo P.orders (dep (gt U k)) * gt P.orders (dep (gt U k)) := Int.mul_le_mul_of_nonneg_right h2 (by omega)
    have h4 : prodTo P.orders (dep (gt U k) + 1) ≤ prodTo P.orders m := prodTo_mono _ _ (by omega) (fun i hi => hP.pos i (by omega))
    have h5 : 1 * 1 ≤ prodU P U k * gt P.orders (dep (gt U k)) := Int.mul_le_mul h1 (by omega) (by omega) (by omega)
    simp only [prodTo] at h4
    simp only [prodU]
    exact ⟨by omega, by omega⟩

theorem prodU_729 {P : Pr} (hP : Valid P) {U : List (List Int)} (hU : SeqOk P U) (k : Nat) (hk : k ≤ U.length) : 1 ≤ prodU P U k ∧ prodU P U k ≤ 729 := by
  obtain ⟨h1, h2⟩ := prodU_le hP hU k P.orders.length hk (fun j hj => (hU.1 _ (gtMem (by omega))).2.1) (Nat.le_refl _)
  have := hP.le729
  exact ⟨h1, by omega⟩

set_option maxHeartbeats 1000000 in
theorem sizeOf_ok (P : Pr) (hP : Valid P) (w : World) (p uv : Value) (U : List (List Int)) (Sp Su : Nat → Prop) (hp : PresP Sp w p P) (hu : Rows2 Su w uv U) (hU : SeqOk P U) (hl : U.length ≤ 100) :
    Calls Tryz.prog 69 #[p, uv] w (Ret w fun _ v => v = .int .i64 (prodU P U U.length)) := by
  have hn6 := hP.n6
  obtain ⟨pb, po, rfl⟩ := hp.shape
  obtain ⟨ao, capo, hco0, hoi⟩ := hp.ordAt
  obtain ⟨au, capu, rfl, _, _⟩ := Sl.shape hu
  have hUz : ∀ z ∈ U, dep z < z.length := fun z hz => by have := hU.1 z hz; rw [this.1.1]; exact this.2.1
  have HU := Lib.hid hU; clear hU
  go_enter Tryz.func69, Tryz.ntmps69
  go_wp2_with fail
  refine Calls.mono (pivots_ok _ U w Su hu hUz (by omega)) ?_
  rintro e1 w1 ⟨pv, rfl, hg1, hV1⟩
  have hpvs : ∃ az capz, pv = .slice az U.length capz := by
    rcases hV1.form with ⟨h1, h2⟩ | ⟨g, cp, h1, _⟩
    · have h3 : U.length = 0 := by unfold depV at h2; rw [List.map_eq_nil_iff] at h2; rw [h2]; rfl
      exact ⟨none, 0, by rw [h1, h3]⟩
    · exact ⟨_, _, by rw [h1]; unfold depV; rw [List.length_map]⟩
  obtain ⟨ap, capp, rfl⟩ := hpvs
  go_wp2
  go_loopw [5, 11] (fun mv iv wr => ∃ i : Nat, mv = .int .i64 (prodU P U i) ∧ iv = .int .i64 i ∧ i ≤ U.length ∧ w1 = wr) (fun _ iv _ => U.length - (intOf iv).toNat)
  case atStart => exact ⟨0, rfl, rfl, by omega, rfl⟩
  case round =>
    obtain ⟨i, rfl, rfl, hi, rfl⟩ := hrel
    by_cases hlt : i < U.length
    · have hlt' : (i : Int) < U.length := by omega
      have hdi : gt (depV U) i = .int .i64 (dep (gt U i)) := by unfold depV; rw [gt_map _ _ _ hlt]
      have hpf : ∃ g, ap = some ⟨g, 0, none⟩ := by
        rcases hV1.form with ⟨h1, h2⟩ | ⟨g, cp, h1, _⟩
        · unfold depV at h2; rw [List.map_eq_nil_iff] at h2; rw [h2] at hlt; simp at hlt
        · simp only [Value.slice.injEq] at h1; exact ⟨g, h1.1⟩
      obtain ⟨gp, rfl⟩ := hpf
      have hcp := hV1.cell i (by unfold depV; rw [List.length_map]; exact hlt)
      rw [hdi] at hcp
      clear hdi
      have hst : prodU P U (i + 1) = prodU P U i * gt P.orders (dep (gt U i)) := rfl
      have hb := prodU_729 hP HU.out (i + 1) hlt
      rw [hst] at hb
      obtain ⟨d, hd⟩ : ∃ d, d = dep (gt U i) := ⟨_, rfl⟩
      rw [← hd] at hcp hst hb
      have hdn : d < P.orders.length := by rw [hd]; exact (HU.out.1 _ (gtMem hlt)).2.1
      clear hd
      have hdn' : (d : Int) < P.orders.length := by omega
      obtain ⟨b, off, rfl, _, _, hco⟩ := Ints.at (hoi.ext hg1) d hdn
      have hc0 := hg1.cell hco0 (by simp)
      have hw : IntKind.i64.wrap (prodU P U i * gt P.orders d) = prodU P U i * gt P.orders d := IntWalk.i64_in _ (by omega)
      have HS := Lib.hid hst; clear hst hb
      go_wp2
      go_roundw
      case rel => exact ⟨i + 1, by rw [HS.out], by go_num, by omega, trivial⟩
      case measure => simp [intOf]; omega
    · have hie : i = U.length := by omega
      subst hie
      go_wp2
      go_ret
      exact ⟨_, rfl, hg1, rfl⟩

end Go.Proofs.YtdklekdpdbjfiaaGreat

/- Plain: the subgroups of a small group as sets of bits; all of them are found; the ascending list is one. -/
namespace Go.Proofs.YtdklekdpdbjfiaaGreat

open Classical in
/-- the numbers of the members below k, as bits -/
noncomputable def maskTo (P : Pr) (H : List Int → Prop) : Nat → Nat
  | 0 => 0
  | k + 1 => if H (elAt P k) then maskTo P H k ||| 2 ^ k else maskTo P H k
noncomputable def msk (P : Pr) (H : List Int → Prop) : Nat := maskTo P H (ordP P).toNat

theorem bit_pow (k t : Nat) : (2 ^ k).testBit t = decide (k = t) := by
  by_cases h : k = t
  · subst h; simp
  · simp [Nat.testBit_two_pow_of_ne h, h]

section
variable {P : Pr} (G : Grp P)
include G

theorem Grp.num_lt {x : List Int} (hx : Vec P.orders x) : (num P x).toNat < (ordP P).toNat ∧ elAt P ((num P x).toNat : Int) = x := by
  have hb := num_bd G.v hx
  refine ⟨by omega, ?_⟩
  rw [show (((num P x).toNat : Nat) : Int) = num P x by omega]; exact elAt_num G.v hx

/-- a set that is closed under products is a subgroup -/
theorem Grp.sub_closed {H : List Int → Prop} (h1 : ∀ x, H x → Vec P.orders x) (h2 : H (zeros P.orders.length)) (h3 : ∀ x y, H x → H y → H (rMul P x y)) : Sub P H := by
  refine ⟨h1, h2, h3, fun x hx => ?_⟩
  have hV := h1 x hx
  obtain ⟨M, hM, hp⟩ := G.fin P.orders.length 0 x (by omega) (T_zero.2 hV)
  have hpw : ∀ k, H (pw P x k) := fun k => by
    induction k with
    | zero => exact h2
    | succ k ih => exact h3 _ _ ih hx
  obtain ⟨m, rfl⟩ : ∃ m, M = m + 1 := ⟨M - 1, by omega⟩
  have e : rInv P x = pw P x m := by
    have hiV := G.invV hV
    have hpV := G.pw_vec hV m
    rw [G.pw_succ' hV] at hp
    rw [← G.grp.er _ hiV, ← hp, ← G.ass hiV hV hpV, G.inv_mul hV, G.grp.el _ hpV]
  rw [e]; exact hpw m

/-- the next subgroup -/
def extP (P : Pr) (H : List Int → Prop) (x : List Int) : List Int → Prop := genP P (fun y => H y ∨ y = x)

end

/-- ascending order of subgroups: by order, then by the entries -/
def subLt (P : Pr) (u v : List (List Int)) : Prop := prodU P u u.length < prodU P v v.length ∨ (prodU P u u.length = prodU P v v.length ∧ cmpL u.flatten v.flatten < 0)

/-- the list of all subgroups -/
def LatL (P : Pr) (L : List (List (List Int))) : Prop := L.Pairwise (subLt P) ∧ ∀ u, u ∈ L ↔ SubB P u

theorem subLt_irrefl {P : Pr} {u : List (List Int)} : ¬ subLt P u u := by
  rintro (h | ⟨_, h⟩)
  · omega
  · rw [(cmpL_zero _ _).2 rfl] at h; omega
theorem subLt_trans {P : Pr} {u v w : List (List Int)} (h : subLt P u v) (k : subLt P v w) : subLt P u w := by
  unfold subLt at *
  rcases h with h | ⟨h1, h2⟩ <;> rcases k with k | ⟨k1, k2⟩
  · exact .inl (by omega)
  · exact .inl (by omega)
  · exact .inl (by omega)
  · refine .inr ⟨by omega, ?_⟩
    have h3 := cmpL_le_trans u.flatten v.flatten w.flatten (by omega) (by omega)
    rcases Int.lt_or_eq_of_le h3 with h4 | h4
    · exact h4
    · rw [cmpL_zero] at h4
      rw [h4] at h2
      have := cmpL_swap w.flatten v.flatten
      omega

/-- two ascending lists with the same members are one -/
theorem sorted_one {α : Type} {r : α → α → Prop} (hi : ∀ a, ¬ r a a) (ht : ∀ a b c, r a b → r b c → r a c) : ∀ {l m : List α}, l.Pairwise r → m.Pairwise r → (∀ x, x ∈ l ↔ x ∈ m) → l = m
  | [], [], _, _, _ => rfl
  | [], b :: m, _, _, h => by have := (h b).2 (List.mem_cons_self ..); cases this
  | a :: l, [], _, _, h => by have := (h a).1 (List.mem_cons_self ..); cases this
  | a :: l, b :: m, hl, hm, h => by
    have hl' := List.pairwise_cons.1 hl
    have hm' := List.pairwise_cons.1 hm
    have hab : a = b := by
      rcases List.mem_cons.1 ((h a).1 (List.mem_cons_self ..)) with h1 | h1
      · exact h1
      · rcases List.mem_cons.1 ((h b).2 (List.mem_cons_self ..)) with h2 | h2
        · exact h2.symm
        · exact absurd (ht _ _ _ (hl'.1 b h2) (hm'.1 a h1)) (hi a)
    subst hab
    congr 1
    refine sorted_one hi ht hl'.2 hm'.2 (fun x => ⟨fun hx => ?_, fun hx => ?_⟩)
    · rcases List.mem_cons.1 ((h x).1 (List.mem_cons_of_mem _ hx)) with h1 | h1
      · subst h1; exact absurd (hl'.1 _ hx) (hi _)
      · exact h1
    · rcases List.mem_cons.1 ((h x).2 (List.mem_cons_of_mem _ hx)) with h1 | h1
      · subst h1; exact absurd (hm'.1 _ hx) (hi _)
      · exact h1

theorem LatL.one {P : Pr} {L M : List (List (List Int))} (h : LatL P L) (k : LatL P M) : L = M :=
  sorted_one (fun _ => subLt_irrefl) (fun _ _ _ => subLt_trans) h.1 k.1 (fun u => (h.2 u).trans (k.2 u).symm)

end Go.Proofs.YtdklekdpdbjfiaaGreat

/- Plain: what impl.extendMask and spec.l19Span compute. -/
namespace Go.Proofs.YtdklekdpdbjfiaaGreat

/-- the number of a product -/
def tb (P : Pr) (a b : Nat) : Nat := (num P (rMul P (elAt P a) (elAt P b))).toNat

section
variable {P : Pr} (G : Grp P)
include G

theorem Grp.elAtV {t : Nat} (_ht : t < (ordP P).toNat) : Vec P.orders (elAt P t) := elAt_vec G.v _ (by omega)
theorem Grp.ext_sub {H : List Int → Prop} (S : Sub P H) {x : List Int} (hx : Vec P.orders x) : Sub P (extP P H x) :=
  G.genP_sub (fun y h => h.elim (S.vec y) (fun e => e ▸ hx))

end

end Go.Proofs.YtdklekdpdbjfiaaGreat

/- Plain: what spec.l19Span computes: the bits of the subgroup that some elements generate. -/
namespace Go.Proofs.YtdklekdpdbjfiaaGreat

/-- a bit that is not set, added -/
theorem add_bit {m y : Nat} (h : m.testBit y = false) : m + 2 ^ y = m ||| 2 ^ y := by
  have hlo : m % 2 ^ (y + 1) < 2 ^ y := by
    rcases Nat.lt_or_ge (m % 2 ^ (y + 1)) (2 ^ y) with h1 | h1
    · exact h1
    · have h2 : m % 2 ^ (y + 1) < 2 ^ (y + 1) := Nat.mod_lt _ (Nat.two_pow_pos _)
      have h3 := Nat.testBit_of_two_pow_le_and_two_pow_add_one_gt h1 h2
      rw [Nat.testBit_mod_two_pow] at h3
      simp [h] at h3
  have e1 := Nat.two_pow_add_eq_or_of_lt hlo 1
  rw [Nat.mul_one] at e1
  have hlt : 2 ^ y + m % 2 ^ (y + 1) < 2 ^ (y + 1) := by
    have e := Nat.pow_succ (n := 2) (m := y)
    omega
  have e2 := Nat.two_pow_add_eq_or_of_lt hlt (m / 2 ^ (y + 1))
  have e3 := Nat.two_pow_add_eq_or_of_lt (Nat.lt_trans hlo (Nat.pow_lt_pow_right (by omega) (Nat.lt_succ_self y))) (m / 2 ^ (y + 1))
  have e4 := Nat.div_add_mod m (2 ^ (y + 1))
  have e5 : m + 2 ^ y = 2 ^ (y + 1) * (m / 2 ^ (y + 1)) + (2 ^ y + m % 2 ^ (y + 1)) := by omega
  rw [e5, e2, e1]
  rw [e4] at e3
  rw [← Nat.or_assoc, Nat.or_comm _ (2 ^ y), Nat.or_assoc, ← e3, Nat.or_comm]

/-- the bits are a list's members -/
def Bits (m : Nat) (q : List Nat) : Prop := ∀ t, m.testBit t = true ↔ t ∈ q
theorem Bits.app {m y : Nat} {q : List Nat} (h : Bits m q) (hy : ¬ y ∈ q) : Bits (m + 2 ^ y) (q ++ [y]) := fun t => by
  have : m.testBit y = false := by
    rw [Bool.eq_false_iff]; exact fun e => hy ((h y).1 e)
  rw [add_bit this, Nat.testBit_or, Bool.or_eq_true, h t, bit_pow, decide_eq_true_iff, List.mem_append, List.mem_singleton]
  exact or_congr Iff.rfl eq_comm

/-- the subgroup that elements with some numbers generate -/
def genN (P : Pr) (gs : List Nat) : List Int → Prop := genP P (fun y => ∃ g ∈ gs, y = elAt P g)

/-- the queue of the numbers that are found; the first k are done, and i of the generators at the next one -/
structure Spn (P : Pr) (gs q : List Nat) (k i : Nat) : Prop where
  nd : q.Nodup
  rng : ∀ t ∈ q, t < (ordP P).toNat ∧ genN P gs (elAt P t)
  zero : 0 ∈ q
  done : ∀ j, j < k → ∀ g ∈ gs, tb P (gt q j) g ∈ q
  part : ∀ j, j < i → tb P (gt q k) (gt gs j) ∈ q

section
variable {P : Pr} (G : Grp P)
include G

omit G in
theorem Spn.len {gs q : List Nat} {k i : Nat} (h : Spn P gs q k i) : q.length ≤ (ordP P).toNat := by
  have := nodup_sub_len q (List.range (ordP P).toNat) h.nd (fun t ht => List.mem_range.2 (h.rng t ht).1)
  simpa using this

omit G in
theorem Spn.next {gs q : List Nat} {k : Nat} (h : Spn P gs q k gs.length) : Spn P gs q (k + 1) 0 :=
  ⟨h.nd, h.rng, h.zero, fun j hj g hg => by
    rcases Nat.lt_succ_iff_lt_or_eq.1 hj with h1 | h1
    · exact h.done j h1 g hg
    · subst h1
      obtain ⟨i, hi, rfl⟩ := List.getElem_of_mem hg
      rw [← gt_eq gs i hi]; exact h.part i hi, fun j hj => by omega⟩
omit G in
theorem Spn.skip {gs q : List Nat} {k i : Nat} (h : Spn P gs q k i) (hy : tb P (gt q k) (gt gs i) ∈ q) : Spn P gs q k (i + 1) :=
  ⟨h.nd, h.rng, h.zero, h.done, fun j hj => by
    rcases Nat.lt_succ_iff_lt_or_eq.1 hj with h1 | h1
    · exact h.part j h1
    · subst h1; exact hy⟩

end

end Go.Proofs.YtdklekdpdbjfiaaGreat

/- Plain: what spec.l19Sequence and l19Insert compute. -/
namespace Go.Proofs.YtdklekdpdbjfiaaGreat

section
variable {P : Pr} (G : Grp P)
include G

end

theorem flatten_inj {α : Type} {n : Nat} (hn : 0 < n) : ∀ {u v : List (List α)}, (∀ x ∈ u, x.length = n) → (∀ x ∈ v, x.length = n) → u.flatten = v.flatten → u = v
  | [], [], _, _, _ => rfl
  | [], b :: v, _, hv, h => by
    have hb := hv b (List.mem_cons_self ..)
    have := congrArg List.length h
    simp only [List.flatten_nil, List.length_nil, List.flatten_cons, List.length_append] at this
    omega
  | a :: u, [], hu, _, h => by
    have ha := hu a (List.mem_cons_self ..)
    have := congrArg List.length h
    simp only [List.flatten_nil, List.length_nil, List.flatten_cons, List.length_append] at this
    omega
  | a :: u, b :: v, hu, hv, h => by
    have ha := hu a (List.mem_cons_self ..)
    have hb := hv b (List.mem_cons_self ..)
    rw [List.flatten_cons, List.flatten_cons] at h
    obtain ⟨h1, h2⟩ := List.append_inj h (by omega)
    rw [h1, flatten_inj hn (fun x hx => hu x (List.mem_cons_of_mem _ hx)) (fun x hx => hv x (List.mem_cons_of_mem _ hx)) h2]

/-- one of two subgroups comes first -/
theorem subLt_total {P : Pr} (G : Grp P) {u v : List (List Int)} (hu : SubB P u) (hv : SubB P v) (hne : u ≠ v) (hn : ¬ subLt P u v) : subLt P v u := by
  unfold subLt at *
  by_cases h1 : prodU P u u.length = prodU P v v.length
  · refine .inr ⟨h1.symm, ?_⟩
    have h2 : ¬ cmpL u.flatten v.flatten < 0 := fun h => hn (.inr ⟨h1, h⟩)
    have h3 : cmpL u.flatten v.flatten ≠ 0 := fun h => by
      rw [cmpL_zero] at h
      by_cases hz : P.orders.length = 0
      · have e1 : u = [] := List.eq_nil_of_length_eq_zero (by have := G.sub_len hu; omega)
        have e2 : v = [] := List.eq_nil_of_length_eq_zero (by have := G.sub_len hv; omega)
        exact hne (e1.trans e2.symm)
      · exact hne (flatten_inj (n := P.orders.length) (by omega) (fun x hx => (hu.1 x hx).1) (fun x hx => (hv.1 x hx).1) h)
    have := cmpL_swap u.flatten v.flatten
    omega
  · refine .inl ?_
    have : ¬ prodU P u u.length < prodU P v v.length := fun h => hn (.inl h)
    omega

/-- a list of subgroups with one more, by the reference's loop: what is built of the first k, and whether the new one is placed -/
structure Ins (P : Pr) (L : List (List (List Int))) (u : List (List Int)) (k : Nat) (out : List (List (List Int))) (placed : Bool) : Prop where
  new : ∀ j, j < k → gt L j ≠ u
  no : placed = false → out = L.take k ∧ ∀ j, j < k → ¬ subLt P u (gt L j)
  yes : placed = true → ∃ p, p < k ∧ out = L.take p ++ u :: (L.take k).drop p ∧ subLt P u (gt L p) ∧ ∀ j, j < p → ¬ subLt P u (gt L j)

theorem ins_end {P : Pr} (G : Grp P) {L : List (List (List Int))} {u : List (List Int)} (hL : L.Pairwise (subLt P)) (hS : ∀ v ∈ L, SubB P v) (hu : SubB P u) {out : List (List (List Int))} {placed : Bool} (I : Ins P L u L.length out placed) :
    ∀ R, R = (if placed then out else out ++ [u]) → R.Pairwise (subLt P) ∧ ∀ v, v ∈ R ↔ v ∈ L ∨ v = u := by
  rintro R rfl
  have hnew : ∀ v ∈ L, v ≠ u := fun v hv => by
    obtain ⟨j, hj, rfl⟩ := List.getElem_of_mem hv
    rw [← gt_eq L j hj]; exact I.new j hj
  cases placed with
  | false =>
    obtain ⟨h1, h2⟩ := I.no rfl
    rw [List.take_length] at h1
    subst h1
    rw [if_neg (by decide)]
    refine ⟨List.pairwise_append.2 ⟨hL, by simp, fun v hv w hw => ?_⟩, fun v => by rw [List.mem_append, List.mem_singleton]⟩
    rw [List.mem_singleton.1 hw]
    obtain ⟨j, hj, hje⟩ := List.getElem_of_mem hv
    have hje2 : gt out j = v := by rw [gt_eq out j hj]; exact hje
    exact subLt_total G hu (hS v hv) (fun e => hnew v hv e.symm) (by rw [← hje2]; exact h2 j hj)
  | true =>
    obtain ⟨p, hp, h1, h2, h3⟩ := I.yes rfl
    rw [List.take_length] at h1
    rw [if_pos rfl, h1]
    have hpl : p < L.length := hp
    have hsplit : L.take p ++ L.drop p = L := List.take_append_drop p L
    have hdrop : L.drop p = gt L p :: L.drop (p + 1) := by rw [List.drop_eq_getElem_cons hpl, gt_eq L p hpl]
    have hL2 := hL
    rw [← hsplit] at hL2
    obtain ⟨q1, q2, q3⟩ := List.pairwise_append.1 hL2
    have hlt : ∀ w ∈ L.drop p, subLt P u w := fun w hw => by
      rw [hdrop] at hw q2
      rcases List.mem_cons.1 hw with rfl | hw'
      · exact h2
      · exact subLt_trans h2 ((List.pairwise_cons.1 q2).1 w hw')
    have hgt : ∀ v ∈ L.take p, subLt P v u := fun v hv => by
      have hvL : v ∈ L := List.mem_of_mem_take hv
      obtain ⟨j, hj, hje⟩ := List.getElem_of_mem hv
      have hjp : j < p := by rw [List.length_take] at hj; omega
      have hje2 : gt L j = v := by
        rw [gt_eq L j (by omega), ← hje, List.getElem_take]
      exact subLt_total G hu (hS v hvL) (fun e => hnew v hvL e.symm) (by rw [← hje2]; exact h3 j hjp)
    refine ⟨List.pairwise_append.2 ⟨q1, List.pairwise_cons.2 ⟨hlt, q2⟩, fun v hv w hw => ?_⟩, fun v => ?_⟩
    · rcases List.mem_cons.1 hw with rfl | hw'
      · exact hgt v hv
      · exact q3 v hv w hw'
    · rw [List.mem_append, List.mem_cons]
      constructor
      · rintro (h | h | h)
        · exact .inl (List.mem_of_mem_take h)
        · exact .inr h
        · exact .inl (List.mem_of_mem_drop h)
      · rintro (h | h)
        · rw [← hsplit] at h
          exact (List.mem_append.1 h).imp id .inr
        · exact .inr (.inl h)

end Go.Proofs.YtdklekdpdbjfiaaGreat

/- The search for all subgroups: the list of masks that grows. -/
namespace Go.Proofs.YtdklekdpdbjfiaaGreat
open Go.RowKit

/-- all extensions of the first i masks, and of the next one by the first x elements, are there -/
structure Fnd (P : Pr) (M : List Nat) (i x : Nat) : Prop where
  nd : M.Nodup
  sub : ∀ m ∈ M, ∃ H, Sub P H ∧ m = msk P H
  one : msk P (fun x => x = zeros P.orders.length) ∈ M
  done : ∀ j, j < i → j < M.length → ∀ t, t < (ordP P).toNat → ∀ H, Sub P H → gt M j = msk P H → ¬ H (elAt P t) → msk P (extP P H (elAt P t)) ∈ M
  part : i < M.length → ∀ t, t < x → t < (ordP P).toNat → ∀ H, Sub P H → gt M i = msk P H → ¬ H (elAt P t) → msk P (extP P H (elAt P t)) ∈ M

section
variable {P : Pr} (G : Grp P)
include G

omit G in
theorem Fnd.skip {M : List Nat} {i x : Nat} (F : Fnd P M i x) (h : ∀ H, Sub P H → gt M i = msk P H → x < (ordP P).toNat → H (elAt P x)) : Fnd P M i (x + 1) :=
  ⟨F.nd, F.sub, F.one, F.done, fun hi t ht htN H S e hn => by
    by_cases hx : t < x
    · exact F.part hi t hx htN H S e hn
    · obtain rfl : t = x := by omega
      exact absurd (h H S e htN) hn⟩

omit G in
theorem Fnd.next {M : List Nat} {i x : Nat} (F : Fnd P M i x) (hx : (ordP P).toNat ≤ x) : Fnd P M (i + 1) 0 :=
  ⟨F.nd, F.sub, F.one, fun j hj hjl t ht K R e hn => by
    by_cases hji : j < i
    · exact F.done j hji hjl t ht K R e hn
    · obtain rfl : j = i := by omega
      exact F.part hjl t (by omega) ht K R e hn, fun _ t ht => by omega⟩

end
end Go.Proofs.YtdklekdpdbjfiaaGreat

/- Moebius values of a list of masks in ascending order. -/
namespace Go.Proofs.YtdklekdpdbjfiaaGreat
open Go.RowKit

end Go.Proofs.YtdklekdpdbjfiaaGreat

/- Plain: the list of products, element by element (for impl.elementsOf). -/
namespace Go.Proofs.YtdklekdpdbjfiaaGreat

theorem stepE_succ (P : Pr) (u : List Int) (o : Nat) (x : List Int) : stepE P u (o + 1) x = stepE P u o x ++ [rMul P x (pw P u o)] := by
  unfold stepE
  rw [List.range_succ, List.map_append]; rfl

theorem flatMap_take_succ {α β : Type} [Inhabited α] (l : List α) (f : α → List β) (i : Nat) (hi : i < l.length) : (l.take (i + 1)).flatMap f = (l.take i).flatMap f ++ f (gt l i) := by
  rw [take_succ_gt l i hi, List.flatMap_append]; simp

theorem stepE_len (P : Pr) (u : List Int) (o : Nat) (x : List Int) : (stepE P u o x).length = o := by unfold stepE; simp

theorem flatMap_len (P : Pr) (u : List Int) (o : Nat) (l : List (List Int)) : (l.flatMap (stepE P u o)).length = l.length * o := by
  induction l with
  | nil => simp
  | cons x l ih => rw [List.flatMap_cons, List.length_append, ih, stepE_len, List.length_cons, Nat.add_mul]; omega

/-- as many products as the order says -/
theorem elsP_len {P : Pr} (hP : Valid P) {U : List (List Int)} (hU : SeqOk P U) (k : Nat) (hk : k ≤ U.length) : ((elsP P U k).length : Int) = prodU P U k := by
  induction k with
  | zero => simp [elsP, prodU]
  | succ k ih =>
    have ih := ih (by omega)
    have ho := hP.ord7 (dep (gt U k)) (hU.1 _ (gtMem (by omega))).2.1
    simp only [elsP, prodU]
    rw [flatMap_len, Int.natCast_mul, ih, show (((gt P.orders (dep (gt U k))).toNat : Nat) : Int) = gt P.orders (dep (gt U k)) by omega]

theorem Grp.step_mul {P : Pr} (G : Grp P) {x u : List Int} (hx : Vec P.orders x) (hu : Vec P.orders u) (t : Nat) : rMul P (rMul P x (pw P u t)) u = rMul P x (pw P u (t + 1)) := by
  rw [pw_succ, G.ass hx (G.pw_vec hu t) hu]

end Go.Proofs.YtdklekdpdbjfiaaGreat

/- Moebius values of the lattice: the sum over all subgroups above one; the number of generating lists. -/
namespace Go.Proofs.YtdklekdpdbjfiaaGreat
open Go.RowKit

section
variable {P : Pr} (G : Grp P)
include G

theorem Grp.order_elems {H : List Int → Prop} (S : Sub P H) : prodU P (cseq P H) (cseq P H).length = (elemsIn P H).length := by
  rw [← G.els_sorted S, (sortL_perm _).length_eq]
  exact (elsP_len G.v (G.seq_facts S).1 _ (Nat.le_refl _)).symm

omit G in
theorem elemsIn_nodup {P : Pr} (hP : Valid P) (H : List Int → Prop) : (elemsIn P H).Nodup :=
  List.nodup_iff_pairwise_ne.2 ((elemsIn_asc hP H).imp (fun {a b} h e => by subst e; omega))

theorem Grp.order_le {H K : List Int → Prop} (S : Sub P H) (R : Sub P K) (h : ∀ x, H x → K x) : prodU P (cseq P H) (cseq P H).length ≤ prodU P (cseq P K) (cseq P K).length ∧
    (prodU P (cseq P H) (cseq P H).length = prodU P (cseq P K) (cseq P K).length → ∀ x, K x → H x) := by
  rw [G.order_elems S, G.order_elems R]
  have hP := G.v
  have hH := elemsIn_mem hP S.vec
  have hK := elemsIn_mem hP R.vec
  have hs : ∀ x ∈ elemsIn P H, x ∈ elemsIn P K := fun x hx => (hK x).2 (h x ((hH x).1 hx))
  have h1 := nodup_sub_len _ _ (elemsIn_nodup hP H) hs
  refine ⟨by omega, fun he x hx => Classical.byContradiction fun hn => ?_⟩
  have hn' : (x :: elemsIn P H).Nodup := List.nodup_cons.2 ⟨fun hm => hn ((hH x).1 hm), elemsIn_nodup hP H⟩
  have h2 := nodup_sub_len _ (elemsIn P K) hn' (fun y hy => by
    rcases List.mem_cons.1 hy with rfl | hy
    · exact (hK _).2 hx
    · exact hs y hy)
  simp only [List.length_cons] at h2
  omega

end

section
variable {P : Pr} (G : Grp P)
include G

end
end Go.Proofs.YtdklekdpdbjfiaaGreat

/- Plain: the elements of a consistent presentation as a type with products; subgroups, cosets, their counting. -/
namespace Go.Proofs.YtdklekdpdbjfiaaGreat

/-- an element of the group -/
def El {P : Pr} (_ : Grp P) : Type := {x : List Int // Vec P.orders x}

section
variable {P : Pr} {G : Grp P}

instance : Mul (El G) := ⟨fun x y => ⟨rMul P x.1 y.1, G.mulV x.2 y.2⟩⟩
instance : One (El G) := ⟨⟨zeros P.orders.length, G.oneV⟩⟩
instance : Inv (El G) := ⟨fun x => ⟨rInv P x.1, G.invV x.2⟩⟩

theorem El.ass (x y z : El G) : x * y * z = x * (y * z) := Subtype.ext (G.ass x.2 y.2 z.2)
theorem El.ol (x : El G) : 1 * x = x := Subtype.ext (G.grp.el _ x.2)
theorem El.or (x : El G) : x * 1 = x := Subtype.ext (G.grp.er _ x.2)
theorem El.il (x : El G) : x⁻¹ * x = 1 := Subtype.ext (G.inv_mul x.2)
theorem El.ir (x : El G) : x * x⁻¹ = 1 := Subtype.ext (G.mul_inv x.2)
theorem El.ilc (x y : El G) : x⁻¹ * (x * y) = y := by rw [← El.ass, El.il, El.ol]
theorem El.irc (x y : El G) : x * (x⁻¹ * y) = y := by rw [← El.ass, El.ir, El.ol]
theorem El.inv_of {x y : El G} (h : x * y = 1) : y = x⁻¹ := by rw [← El.ilc x y, h, El.or]
theorem El.mi (x y : El G) : (x * y)⁻¹ = y⁻¹ * x⁻¹ := (El.inv_of (by rw [El.ass, El.irc, El.ir])).symm
theorem El.ii (x : El G) : x⁻¹⁻¹ = x := (El.inv_of (El.il x)).symm
theorem El.io : (1 : El G)⁻¹ = 1 := (El.inv_of (El.ol 1)).symm

/-- powers -/
def ep (x : El G) : Nat → El G
  | 0 => 1
  | k + 1 => ep x k * x
theorem ep_val (x : El G) : ∀ k, (ep x k).1 = pw P x.1 k
  | 0 => rfl
  | k + 1 => by
    show rMul P (ep x k).1 x.1 = _
    rw [ep_val x k]; rfl
theorem ep_add (x : El G) (a b : Nat) : ep x (a + b) = ep x a * ep x b := by
  induction b with
  | zero => exact (El.or _).symm
  | succ b ih => show ep x (a + b) * x = ep x a * (ep x b * x); rw [ih, El.ass]
theorem ep_mul (x : El G) (a b : Nat) : ep x (a * b) = ep (ep x a) b := by
  induction b with
  | zero => rfl
  | succ b ih => rw [Nat.mul_succ, ep_add, ih]; rfl
theorem ep_one (k : Nat) : ep (1 : El G) k = 1 := by
  induction k with
  | zero => rfl
  | succ k ih => show ep 1 k * 1 = 1; rw [ih, El.or]
theorem ep_1 (x : El G) : ep x 1 = x := El.ol x
theorem ep_conj (x g : El G) (k : Nat) : ep (g⁻¹ * (x * g)) k = g⁻¹ * (ep x k * g) := by
  induction k with
  | zero => show (1 : El G) = g⁻¹ * (1 * g); rw [El.ol, El.il]
  | succ k ih =>
    show ep _ k * _ = _
    rw [ih]
    show g⁻¹ * (ep x k * g) * (g⁻¹ * (x * g)) = g⁻¹ * ((ep x k * x) * g)
    simp only [El.ass, El.irc]

/-- a subgroup -/
structure SG (H : El G → Prop) : Prop where
  one : H 1
  mul : ∀ x y, H x → H y → H (x * y)
  inv : ∀ x, H x → H x⁻¹
theorem SG.ep {H : El G → Prop} (S : SG H) {x : El G} (hx : H x) (k : Nat) : H (ep x k) := by
  induction k with
  | zero => exact S.one
  | succ k ih => exact S.mul _ _ ih hx
theorem SG.and {H K : El G → Prop} (S : SG H) (R : SG K) : SG (fun x => H x ∧ K x) :=
  ⟨⟨S.one, R.one⟩, fun _ _ h k => ⟨S.mul _ _ h.1 k.1, R.mul _ _ h.2 k.2⟩, fun _ h => ⟨S.inv _ h.1, R.inv _ h.2⟩⟩

/-- x begins with d zeros -/
def dT (d : Nat) (x : El G) : Prop := ∀ k, k < d → gt x.1 k = 0
theorem dT_T {d : Nat} {x : El G} : dT d x ↔ T P d x.1 := ⟨fun h => ⟨x.2, h⟩, fun h => h.2⟩
theorem dT_sg {d : Nat} (hd : d ≤ P.orders.length) : SG (dT (G := G) d) :=
  ⟨dT_T.2 (T.zeros G.v d), fun _ _ h k => dT_T.2 (G.T_mul hd (dT_T.1 h) (dT_T.1 k)), fun _ h => dT_T.2 (G.T_inv hd (dT_T.1 h))⟩
theorem dT_top {x : El G} (h : dT P.orders.length x) : x = 1 := Subtype.ext ((dT_T.1 h).top G.v)
theorem dT_up {d : Nat} {x : El G} (h : dT d x) (h0 : gt x.1 d = 0) : dT (d + 1) x := dT_T.2 ((dT_T.1 h).up h0)
theorem dT_down {d : Nat} {x : El G} (h : dT (d + 1) x) : dT d x := fun k hk => h k (by omega)
theorem dT_zero (x : El G) : dT 0 x := fun k hk => by omega

/-- the depths of a subgroup -/
def pv (H : El G → Prop) (d : Nat) : Prop := d < P.orders.length ∧ ∃ x, H x ∧ dT d x ∧ gt x.1 d ≠ 0
theorem pv_mono {H K : El G → Prop} (h : ∀ x, H x → K x) {d : Nat} : pv H d → pv K d := fun ⟨h1, x, h2, h3⟩ => ⟨h1, x, h _ h2, h3⟩

theorem prm7 (q c k : Nat) (hq : q = 2 ∨ q = 3 ∨ q = 5 ∨ q = 7) (h0 : 0 < c) (h1 : c < q) (hk : ¬ q ∣ k) : (k * c) % q ≠ 0 := by
  have hc : c = 1 ∨ c = 2 ∨ c = 3 ∨ c = 4 ∨ c = 5 ∨ c = 6 := by omega
  rcases hq with rfl | rfl | rfl | rfl <;> rcases hc with rfl | rfl | rfl | rfl | rfl | rfl <;> omega
theorem hit7 (q b c : Nat) (hq : q = 2 ∨ q = 3 ∨ q = 5 ∨ q = 7) (h0 : 0 < b) (h1 : b < q) (hc : c < q) : ∃ j, (j * b) % q = c := by
  have key : ∀ q, q < 8 → (q = 2 ∨ q = 3 ∨ q = 5 ∨ q = 7) → ∀ b, b < q → 0 < b → ∀ c, c < q → ∃ j, j < q ∧ (j * b) % q = c := by decide
  obtain ⟨j, _, h⟩ := key q (by omega) hq b h1 h0 c hc
  exact ⟨j, h⟩
theorem ordN (G : Grp P) {d : Nat} (hd : d < P.orders.length) : ∃ q : Nat, gt P.orders d = (q : Int) ∧ (gt P.orders d).toNat = q ∧ (q = 2 ∨ q = 3 ∨ q = 5 ∨ q = 7) := by
  have := G.v.ord d hd
  exact ⟨(gt P.orders d).toNat, by omega, rfl, by omega⟩

theorem ep_dT {d : Nat} (hd : d ≤ P.orders.length) {x : El G} (h : dT d x) (k : Nat) : dT d (ep x k) := (dT_sg hd).ep h k
theorem ep_at {d : Nat} (hd : d < P.orders.length) {x : El G} (h : dT d x) (k : Nat) : gt (ep x k).1 d = ((k : Int) * gt x.1 d) % gt P.orders d := by
  rw [ep_val]; exact G.pw_at hd (dT_T.1 h) k
theorem lead_ne {d : Nat} (hd : d < P.orders.length) {x : El G} (h : dT d x) (h0 : gt x.1 d ≠ 0) {k : Nat} (hk : ¬ (gt P.orders d).toNat ∣ k) : gt (ep x k).1 d ≠ 0 := by
  obtain ⟨q, h1, h2, h3⟩ := ordN G hd
  have hb := x.2.2 d hd
  obtain ⟨c, hc⟩ : ∃ c : Nat, gt x.1 d = (c : Int) := ⟨(gt x.1 d).toNat, by omega⟩
  rw [ep_at hd h, h1, hc]
  have := prm7 q c k h3 (by omega) (by omega) (by rw [← h2]; exact hk)
  intro he
  apply this
  have h4 : (((k * c) % q : Nat) : Int) = 0 := by rw [Int.natCast_emod, Int.natCast_mul]; exact he
  omega
theorem lead_hit {d : Nat} (hd : d < P.orders.length) {x : El G} (h : dT d x) (h0 : gt x.1 d ≠ 0) {c : Int} (hc : 0 ≤ c ∧ c < gt P.orders d) : ∃ j, gt (ep x j).1 d = c := by
  obtain ⟨q, h1, h2, h3⟩ := ordN G hd
  have hb := x.2.2 d hd
  obtain ⟨b, hbe⟩ : ∃ b : Nat, gt x.1 d = (b : Int) := ⟨(gt x.1 d).toNat, by omega⟩
  obtain ⟨e, he⟩ : ∃ e : Nat, c = (e : Int) := ⟨c.toNat, by omega⟩
  obtain ⟨j, hj⟩ := hit7 q b e h3 (by omega) (by omega) (by omega)
  refine ⟨j, ?_⟩
  rw [ep_at hd h, h1, hbe, he, ← hj, Int.natCast_emod, Int.natCast_mul]
theorem el_diff {d : Nat} (hd : d < P.orders.length) {x y : El G} (hx : dT d x) (hy : dT d y) (h : gt x.1 d = gt y.1 d) : dT (d + 1) (x⁻¹ * y) :=
  dT_T.2 (G.diff hd (dT_T.1 hx) (dT_T.1 hy) h)
theorem el_same {d : Nat} (hd : d < P.orders.length) {x y : El G} (h : dT (d + 1) (x⁻¹ * y)) : gt x.1 d = gt y.1 d := by
  have h1 := (G.right (Nat.succ_le_of_lt hd) x.2 (dT_T.1 h)).1 d (by omega)
  have h2 : rMul P x.1 (x⁻¹ * y).1 = y.1 := congrArg Subtype.val (El.irc x y)
  rw [h2] at h1
  exact h1.symm

/-- a subgroup with all depths of a greater one is it -/
theorem le_of_pv {H K : El G → Prop} (S : SG H) (R : SG K) (hle : ∀ x, H x → K x) (hp : ∀ d, pv K d → pv H d) : ∀ x, K x → H x := by
  have key : ∀ f d, d + f = P.orders.length → ∀ x, K x → dT d x → H x := by
    intro f
    induction f with
    | zero =>
      intro d hd x _ hT
      have : d = P.orders.length := by omega
      subst this
      rw [dT_top hT]; exact S.one
    | succ f ih =>
      intro d hd x hx hT
      by_cases h0 : gt x.1 d = 0
      · exact ih (d + 1) (by omega) x hx (dT_up hT h0)
      · obtain ⟨hdn, y, hy, hyT, hy0⟩ := hp d ⟨by omega, x, hx, hT, h0⟩
        obtain ⟨j, hj⟩ := lead_hit hdn hyT hy0 (x.2.2 d hdn)
        have hyj := ep_dT (Nat.le_of_lt hdn) hyT j
        have h1 := ih (d + 1) (by omega) _ (R.mul _ _ (R.inv _ (R.ep (hle _ hy) j)) hx) (el_diff hdn hyj hT hj)
        have h2 := S.mul _ _ (S.ep hy j) h1
        rwa [El.irc] at h2
  exact fun x hx => key P.orders.length 0 (by omega) x hx (dT_zero x)

/-- all elements -/
theorem els_ex (G : Grp P) : ∃ l : List (El G), l.Nodup ∧ ∀ x, x ∈ l := by
  have key : ∀ m : List (List Int), m.Nodup → ∃ l : List (El G), l.Nodup ∧ ∀ x : El G, x ∈ l ↔ x.1 ∈ m := by
    intro m
    induction m with
    | nil => intro _; exact ⟨[], List.nodup_nil, fun x => by simp⟩
    | cons a m ih =>
      intro h
      obtain ⟨h1, h2⟩ := List.nodup_cons.1 h
      obtain ⟨l, hl, hm⟩ := ih h2
      by_cases ha : Vec P.orders a
      · obtain ⟨y, hy⟩ : ∃ y : El G, y.1 = a := ⟨⟨a, ha⟩, rfl⟩
        refine ⟨y :: l, List.nodup_cons.2 ⟨fun hh => h1 (hy ▸ (hm _).1 hh), hl⟩, fun x => ?_⟩
        rw [List.mem_cons, List.mem_cons, hm x]
        exact ⟨fun hh => hh.elim (fun e => .inl (by rw [e]; exact hy)) .inr, fun hh => hh.elim (fun e => .inl (Subtype.ext (e.trans hy.symm))) .inr⟩
      · refine ⟨l, hl, fun x => ?_⟩
        rw [hm x, List.mem_cons]
        exact ⟨.inr, fun hh => hh.elim (fun e => absurd (e ▸ x.2) ha) id⟩
  obtain ⟨l, h1, h2⟩ := key (elemsIn P (Vec P.orders)) (elemsIn_nodup G.v _)
  exact ⟨l, h1, fun x => (h2 x).2 ((elemsIn_mem G.v (fun _ h => h)) x.1 |>.2 x.2)⟩
noncomputable def els (G : Grp P) : List (El G) := Classical.choose (els_ex G)
theorem els_nodup (G : Grp P) : (els G).Nodup := (Classical.choose_spec (els_ex G)).1
theorem els_mem (G : Grp P) (x : El G) : x ∈ els G := (Classical.choose_spec (els_ex G)).2 x

open Classical in
noncomputable def elsIn (H : El G → Prop) : List (El G) := (els G).filter (fun x => decide (H x))
theorem elsIn_nodup (H : El G → Prop) : (elsIn H).Nodup := (els_nodup G).filter _
theorem elsIn_mem {H : El G → Prop} {x : El G} : x ∈ elsIn H ↔ H x := by
  classical
  unfold elsIn; rw [List.mem_filter, decide_eq_true_iff]; exact ⟨fun h => h.2, fun h => ⟨els_mem G x, h⟩⟩
/-- how many elements have a property -/
noncomputable def cd (H : El G → Prop) : Nat := (elsIn H).length
theorem cd_list {H : El G → Prop} {l : List (El G)} (h1 : l.Nodup) (h2 : ∀ x, x ∈ l ↔ H x) : cd H = l.length :=
  ((List.perm_ext_iff_of_nodup (elsIn_nodup H) h1).2 (fun x => elsIn_mem.trans (h2 x).symm)).length_eq
theorem cd_congr {H K : El G → Prop} (h : ∀ x, H x ↔ K x) : cd H = cd K := by
  have : H = K := funext fun x => propext (h x)
  rw [this]
/-- alike up to N -/
def eqv (N : El G → Prop) (x y : El G) : Prop := N (x⁻¹ * y)
theorem eqv_refl {N : El G → Prop} (S : SG N) (x : El G) : eqv N x x := by unfold eqv; rw [El.il]; exact S.one
theorem eqv_symm {N : El G → Prop} (S : SG N) {x y : El G} (h : eqv N x y) : eqv N y x := by
  have := S.inv _ h
  rwa [El.mi, El.ii] at this
theorem eqv_trans {N : El G → Prop} (S : SG N) {x y z : El G} (h : eqv N x y) (k : eqv N y z) : eqv N x z := by
  have := S.mul _ _ h k
  rwa [El.ass, El.irc] at this

theorem flat_len {α β : Type} (l : List α) (f : α → List β) (n : Nat) (h : ∀ x ∈ l, (f x).length = n) : (l.flatMap f).length = l.length * n := flatMap_len' l f n h

/-- Lagrange, by representatives -/
theorem cd_mul {N B : El G → Prop} (S : SG N) {ts : List (El G)} (hn : ts.Nodup) (hc : ∀ t ∈ ts, ∀ n, N n → B (t * n)) (h1 : ∀ t ∈ ts, ∀ u ∈ ts, eqv N t u → t = u) (h2 : ∀ x, B x → ∃ t ∈ ts, eqv N t x) : cd B = ts.length * cd N := by
  rw [cd_list (H := B) (l := ts.flatMap (fun t => (elsIn N).map (fun n => t * n))) ?_ ?_]
  · exact flat_len _ _ _ (fun x _ => List.length_map ..)
  · refine List.nodup_iff_pairwise_ne.2 (List.pairwise_flatMap.2 ⟨fun t _ => ?_, ?_⟩)
    · rw [List.pairwise_map]
      refine (List.nodup_iff_pairwise_ne.1 (elsIn_nodup N)).imp (fun {a b} hab e => hab ?_)
      have := congrArg (fun z => t⁻¹ * z) e
      simpa only [El.ilc] using this
    · refine (List.nodup_iff_pairwise_ne.1 hn).imp_of_mem (fun {a b} ha hb hab x hx y hy e => hab (h1 a ha b hb ?_))
      obtain ⟨n, hn1, rfl⟩ := List.mem_map.1 hx
      obtain ⟨m, hm1, rfl⟩ := List.mem_map.1 hy
      unfold eqv
      have e2 : a⁻¹ * b = n * m⁻¹ := by
        have e3 : b = a * n * m⁻¹ := by rw [e, El.ass, El.ir, El.or]
        rw [e3, El.ass, El.ilc]
      rw [e2]
      exact S.mul _ _ (elsIn_mem.1 hn1) (S.inv _ (elsIn_mem.1 hm1))
  · intro x
    rw [List.mem_flatMap]
    constructor
    · rintro ⟨t, ht, hx⟩
      obtain ⟨n, hn1, rfl⟩ := List.mem_map.1 hx
      exact hc t ht n (elsIn_mem.1 hn1)
    · intro hx
      obtain ⟨t, ht, h⟩ := h2 x hx
      exact ⟨t, ht, List.mem_map.2 ⟨t⁻¹ * x, elsIn_mem.2 h, El.irc t x⟩⟩

open Classical in
/-- the first element alike -/
noncomputable def rp (N : El G → Prop) (x : El G) : El G := ((els G).find? (fun t => decide (eqv N t x))).getD 1
theorem rp_eqv {N : El G → Prop} (S : SG N) (x : El G) : eqv N (rp N x) x := by
  classical
  unfold rp
  cases h : (els G).find? (fun t => decide (eqv N t x)) with
  | none =>
    have := List.find?_eq_none.1 h x (els_mem G x)
    exact absurd (decide_eq_true (eqv_refl S x)) this
  | some t =>
    have h2 := List.find?_some h
    exact of_decide_eq_true h2
theorem rp_one {N : El G → Prop} (S : SG N) {x y : El G} (h : eqv N x y) : rp N x = rp N y := by
  classical
  unfold rp
  have : (fun t => decide (eqv N t x)) = fun t => decide (eqv N t y) := funext fun t => by
    rw [decide_eq_decide]
    exact ⟨fun k => eqv_trans S k h, fun k => eqv_trans S k (eqv_symm S h)⟩
  rw [this]
/-- representatives of B up to N -/
noncomputable def trv (N B : El G → Prop) : List (El G) := elsIn (fun x => B x ∧ rp N x = x)
theorem trv_mem {N B : El G → Prop} {x : El G} : x ∈ trv N B ↔ B x ∧ rp N x = x := elsIn_mem
theorem rp_in {N B : El G → Prop} (S : SG N) (R : SG B) (h : ∀ x, N x → B x) {x : El G} (hx : B x) : rp N x ∈ trv N B := by
  have h1 := rp_eqv S x
  refine trv_mem.2 ⟨?_, rp_one S h1⟩
  have h2 := R.mul _ _ hx (h _ (eqv_symm S h1))
  rwa [El.irc] at h2
theorem trv_one {N B : El G → Prop} (S : SG N) {t u : El G} (ht : t ∈ trv N B) (hu : u ∈ trv N B) (h : eqv N t u) : t = u := by
  rw [← (trv_mem.1 ht).2, ← (trv_mem.1 hu).2]; exact rp_one S h
theorem cd_trv {N B : El G → Prop} (S : SG N) (R : SG B) (h : ∀ x, N x → B x) : cd B = (trv N B).length * cd N :=
  cd_mul S (elsIn_nodup _) (fun _ ht n hn => R.mul _ _ (trv_mem.1 ht).1 (h n hn)) (fun _ ht _ hu e => trv_one S ht hu e) (fun x hx => ⟨rp N x, rp_in S R h hx, rp_eqv S x⟩)

open Classical in
/-- the product of the orders at the depths with a property, f of them from d on -/
noncomputable def prd (P : Pr) (Q : Nat → Prop) : Nat → Nat → Nat
  | 0, _ => 1
  | f + 1, d => (if Q d then (gt P.orders d).toNat else 1) * prd P Q f (d + 1)
theorem prd_congr {Q R : Nat → Prop} : ∀ f d, (∀ k, d ≤ k → k < d + f → (Q k ↔ R k)) → prd P Q f d = prd P R f d
  | 0, _, _ => rfl
  | f + 1, d, h => by
    have h1 := h d (by omega) (by omega)
    unfold prd
    rw [prd_congr f (d + 1) (fun k a b => h k (by omega) (by omega))]
    by_cases hq : Q d
    · rw [if_pos hq, if_pos (h1.1 hq)]
    · rw [if_neg hq, if_neg (fun hr => hq (h1.2 hr))]
theorem prd_mul {Q R : Nat → Prop} : ∀ f d, (∀ k, d ≤ k → k < d + f → Q k → ¬ R k) → prd P Q f d * prd P R f d = prd P (fun k => Q k ∨ R k) f d
  | 0, _, _ => rfl
  | f + 1, d, h => by
    have h1 := h d (by omega) (by omega)
    have ih := prd_mul f (d + 1) (fun k a b => h k (by omega) (by omega))
    unfold prd
    rw [← ih]
    by_cases hq : Q d
    · rw [if_pos hq, if_neg (h1 hq), if_pos (.inl hq)]
      simp only [Nat.one_mul, Nat.mul_assoc]
    · by_cases hr : R d
      · rw [if_neg hq, if_pos hr, if_pos (.inr hr)]
        simp only [Nat.one_mul, Nat.mul_left_comm]
      · rw [if_neg hq, if_neg hr, if_neg (fun hh => hh.elim hq hr)]
        simp only [Nat.one_mul]
theorem prd_pos (G : Grp P) (Q : Nat → Prop) : ∀ f d, d + f = P.orders.length → 0 < prd P Q f d
  | 0, _, _ => Nat.one_pos
  | f + 1, d, h => by
    have := prd_pos G Q f (d + 1) (by omega)
    obtain ⟨q, _, h2, h3⟩ := ordN G (show d < P.orders.length by omega)
    unfold prd
    split
    · exact Nat.mul_pos (by omega) this
    · rw [Nat.one_mul]; exact this
theorem cop7 {q r : Nat} (hq : q = 2 ∨ q = 3 ∨ q = 5 ∨ q = 7) (hr : r = 2 ∨ r = 3 ∨ r = 5 ∨ r = 7) (h : q ≠ r) : Nat.Coprime q r := by
  rcases hq with rfl | rfl | rfl | rfl <;> rcases hr with rfl | rfl | rfl | rfl <;> first | (exact absurd rfl h) | decide
theorem prd_cop1 (G : Grp P) {Q : Nat → Prop} {q : Nat} (hq : q = 2 ∨ q = 3 ∨ q = 5 ∨ q = 7) : ∀ f d, d + f = P.orders.length → (∀ k, k < P.orders.length → Q k → (gt P.orders k).toNat ≠ q) → Nat.Coprime q (prd P Q f d)
  | 0, _, _, _ => Nat.coprime_one_right q
  | f + 1, d, hd, h => by
    have ih := prd_cop1 G hq f (d + 1) (by omega) h
    obtain ⟨r, _, h2, h3⟩ := ordN G (show d < P.orders.length by omega)
    unfold prd
    split
    · rename_i hQ
      refine Nat.Coprime.mul_right (cop7 hq (by rw [h2]; exact h3) (fun e => h d (by omega) hQ e.symm)) ih
    · rw [Nat.one_mul]; exact ih
theorem prd_cop (G : Grp P) {Q R : Nat → Prop} : ∀ f d, d + f = P.orders.length → (∀ j k, j < P.orders.length → k < P.orders.length → Q j → R k → gt P.orders j ≠ gt P.orders k) → Nat.Coprime (prd P Q f d) (prd P R P.orders.length 0)
  | 0, _, _, _ => Nat.coprime_one_left _
  | f + 1, d, hd, h => by
    have ih := prd_cop G f (d + 1) (by omega) h
    obtain ⟨r, h1, h2, h3⟩ := ordN G (show d < P.orders.length by omega)
    rw [prd]
    split
    · rename_i hQ
      refine Nat.Coprime.mul_left (prd_cop1 G (by rw [h2]; exact h3) _ 0 (by omega) (fun k hk hR e => h d k (by omega) hk hQ hR ?_)) ih
      obtain ⟨s, g1, g2, _⟩ := ordN G hk
      omega
    · rw [Nat.one_mul]; exact ih

/-- the order of a subgroup, by its depths -/
theorem cd_pv {H : El G → Prop} (S : SG H) : ∀ f d, d + f = P.orders.length → cd (fun x => H x ∧ dT d x) = prd P (pv H) f d
  | 0, d, hd => by
    have : d = P.orders.length := by omega
    subst this
    have := cd_list (H := fun x => H x ∧ dT P.orders.length x) (l := [(1 : El G)]) (by simp) (fun x => by
      rw [List.mem_singleton]
      exact ⟨fun e => by rw [e]; exact ⟨S.one, (dT_sg (Nat.le_refl _)).one⟩, fun h => dT_top h.2⟩)
    exact this
  | f + 1, d, hd => by
    have hdn : d < P.orders.length := by omega
    have ih := cd_pv S f (d + 1) (by omega)
    have S' : SG (fun x => H x ∧ dT (d + 1) x) := S.and (dT_sg (by omega))
    have Sd : SG (dT (G := G) d) := dT_sg (by omega)
    rw [prd, ← ih]
    by_cases hp : pv H d
    · rw [if_pos hp]
      obtain ⟨_, y0, hy0, hT0, hn0⟩ := hp
      obtain ⟨q, hq1, hq2, hq3⟩ := ordN G hdn
      obtain ⟨j, hj⟩ := lead_hit hdn hT0 hn0 (c := 1) (by omega)
      obtain ⟨y, hy⟩ : ∃ y, y = ep y0 j := ⟨_, rfl⟩
      have hyH : H y := by rw [hy]; exact S.ep hy0 j
      have hyT : dT d y := by rw [hy]; exact ep_dT (by omega) hT0 j
      have hy1 : gt y.1 d = 1 := by rw [hy]; exact hj
      have hat : ∀ i, i < q → gt (ep y i).1 d = (i : Int) := fun i hi => by
        rw [ep_at hdn hyT, hy1, hq1, Int.mul_one, Int.emod_eq_of_lt (by omega) (by omega)]
      have hinj : ∀ i j, i < q → j < q → eqv (fun x => H x ∧ dT (d + 1) x) (ep y i) (ep y j) → i = j := fun i j hi hj h => by
        have := el_same hdn h.2
        rw [hat i hi, hat j hj] at this
        omega
      have hl : ((List.range q).map (fun i => ep y i)).length = (gt P.orders d).toNat := by rw [List.length_map, List.length_range, hq2]
      rw [← hl]
      refine cd_mul S' ?_ ?_ ?_ ?_
      · refine List.nodup_iff_pairwise_ne.2 ?_
        rw [List.pairwise_map]
        refine (List.nodup_iff_pairwise_ne.1 List.nodup_range).imp_of_mem (fun {a b} ha hb hab e => hab (hinj a b (List.mem_range.1 ha) (List.mem_range.1 hb) ?_))
        rw [e]; exact eqv_refl S' _
      · intro t ht n hn
        obtain ⟨i, _, rfl⟩ := List.mem_map.1 ht
        exact ⟨S.mul _ _ (S.ep hyH i) hn.1, Sd.mul _ _ (Sd.ep hyT i) (dT_down hn.2)⟩
      · intro t ht u hu h
        obtain ⟨i, hi, rfl⟩ := List.mem_map.1 ht
        obtain ⟨k, hk, rfl⟩ := List.mem_map.1 hu
        rw [hinj i k (List.mem_range.1 hi) (List.mem_range.1 hk) h]
      · intro x hx
        have hb := x.2.2 d hdn
        refine ⟨ep y (gt x.1 d).toNat, List.mem_map.2 ⟨_, List.mem_range.2 (by omega), rfl⟩, S.mul _ _ (S.inv _ (S.ep hyH _)) hx.1, el_diff hdn (Sd.ep hyT _) hx.2 ?_⟩
        rw [hat _ (by omega)]; omega
    · rw [if_neg hp, Nat.one_mul]
      exact cd_congr (fun x => ⟨fun h => ⟨h.1, dT_up h.2 (Classical.byContradiction fun h0 => hp ⟨hdn, x, h.1, h.2, h0⟩)⟩, fun h => ⟨h.1, dT_down h.2⟩⟩)
theorem cd_eq {H : El G → Prop} (S : SG H) : cd H = prd P (pv H) P.orders.length 0 := by
  rw [← cd_pv S _ _ (Nat.zero_add _)]
  exact cd_congr (fun x => ⟨fun h => ⟨h, dT_zero x⟩, fun h => h.1⟩)
/-- the index, by depths -/
theorem trv_len {N B : El G → Prop} (S : SG N) (R : SG B) (h : ∀ x, N x → B x) : (trv N B).length = prd P (fun d => pv B d ∧ ¬ pv N d) P.orders.length 0 := by
  have h1 := cd_trv S R h
  rw [cd_eq R, cd_eq S] at h1
  have h2 := prd_mul (P := P) (Q := fun d => pv B d ∧ ¬ pv N d) (R := pv N) P.orders.length 0 (fun k _ _ hk => hk.2)
  have h3 : prd P (fun k => (pv B k ∧ ¬ pv N k) ∨ pv N k) P.orders.length 0 = prd P (pv B) P.orders.length 0 := prd_congr _ _ (fun k _ _ => by
    constructor
    · rintro (h4 | h4)
      · exact h4.1
      · exact pv_mono h h4
    · intro h4
      by_cases h5 : pv N k
      · exact .inr h5
      · exact .inl ⟨h4, h5⟩)
  rw [h3, h1] at h2
  exact (Nat.eq_of_mul_eq_mul_right (prd_pos G _ _ _ (Nat.zero_add _)) h2).symm
end

end Go.Proofs.YtdklekdpdbjfiaaGreat
