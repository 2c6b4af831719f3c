/-
  Small things of the subgroup statements.
  The subgroup of a list.
  Plain: the left cosets that are fixed: the representative of y x is x exactly if the conjugate of y by x lies in the subgroup.
  Plain: the transversal of a sequence, listed by the program and by number.
  Plain: the conjugates of a subgroup, as sequences and as masks; the classes of conjugate subgroups.
  Plain: Hall subgroups as sequences: the orders, the way up to one, their one class, the one ascending list.
  spec.l01Part, l20Part: the part of an order for a set of primes.
  Plain: the index of a subgroup as a product over the free indices; the number of fixed cosets.
  Plain: sizes of subgroups: the size of one divides that of a greater one; the equations of the law of product sets.
  Plain: the lists of the program as representatives of double cosets and of left cosets; the number of fixed cosets.
  Plain: the transversal holds one element of each left coset; fixed cosets as a count.
  NormalCore on both sides.
  CosetRepresentative on both sides.
  Plain: the numbers of the left cosets; the action of the elements on them.
  Plain: a presentation whose relations are held by members of a monoid that cancel, no two vectors alike, is consistent; words of bijections; a regular realisation makes a presentation consistent.
  Plain: what CosetAction answers, and what FnCosetActions asks of it.
  What the program's public subgroup functions answer on subgroups (printed by gen_auxw.py).
  slices.Index and Contains at []int; impl.otherIndices (printed by gen_fixw2.py).
  Plain: the reference's count of fixed cosets is the program's.
  Vectors of different kinds lie in different blocks; an append that tells where the new vector lies.
  spec.l14Free, l14Index, l14Element, FixedCosets, where all goes well.
-/
import Derived.Test.YtmjkoejegfjbbaaGreatC1
import Derived.Test.YtmjkoejegfjbbaaGreatC10
import Derived.Test.YtmjkoejegfjbbaaGreatC11
import Derived.Test.YtmjkoejegfjbbaaGreatC12
import Derived.Test.YtmjkoejegfjbbaaGreatC15
import Derived.Test.YtmjkoejegfjbbaaGreatC16
import Derived.Test.YtmjkoejegfjbbaaGreatC17
import Derived.Test.YtmjkoejegfjbbaaGreatC2
import Derived.Test.YtmjkoejegfjbbaaGreatC3
import Derived.Test.YtmjkoejegfjbbaaGreatC7
import Derived.Test.YtmjkoejegfjbbaaGreatC8
import Derived.Test.YtmjkoejegfjbbaaGreatC9
import Derived.StillTailTactics
namespace Go.Proofs.YtmjkoejegfjbbaaGreat
open Go.RowKit
theorem rows3One {S : Nat → Prop} {w : World} {u : Value} {U : List (List Int)} (h : Rows2 S w u U) : Rows3 Any (w.alloc (.cells #[u] 32)) (.slice (some ⟨w.heap.size, 0, none⟩) 1 1) [U] := by
 refine ⟨_, 1, rfl, ⟨by simp, by simp, fun h => by cases h⟩, fun i hi => ?_⟩
 have : i = 0 := by simpa using hi
 subst this
 refine ⟨w.heap.size, 0, u, rfl, trivial, by simp, by rw [World.cell?_alloc_at _ _ _ _ rfl]; rfl, ?_⟩
 exact Rows2.sub (Rows2.ext h (World.grownBy_alloc _ _ _)) (fun _ _ _ => trivial)
end Go.Proofs.YtmjkoejegfjbbaaGreat
namespace Go.Proofs.YtmjkoejegfjbbaaGreat
abbrev gU (P : Pr) (U : List (List Int)) : List Int → Prop := genP P (fun x => x ∈ U)
end Go.Proofs.YtmjkoejegfjbbaaGreat
namespace Go.Proofs.YtmjkoejegfjbbaaGreat
open Go.RowKit
def Zr (P : Pr) (U : List (List Int)) (x : List Int) : Prop := Vec P.orders x ∧ ∀ j, j < U.length → gt x (dep (gt U j)) = 0
theorem Grp.zr_one {P : Pr} (G : Grp P) {H : List Int → Prop} (S : Sub P H) {x y : List Int} (hx : Zr P (cseq P H) x) (hy : Zr P (cseq P H) y) (h : H (rMul P (rInv P x) y)) : x = y := by
 obtain ⟨_, _, h3⟩ := G.seq_facts S
 have hxi := G.invV hx.1
 have e1 : rMul P x (rMul P (rInv P x) y) = y := by rw [← G.ass hx.1 hxi hy.1, G.mul_inv hx.1, G.grp.el _ hy.1]
 by_cases hz : rMul P (rInv P x) y = zeros P.orders.length
 ·rw [hz, G.grp.er _ hx.1] at e1; exact e1
 ·exfalso
  have hzv := S.vec _ h
  obtain ⟨e, he, hT, h0⟩ := depth_ex hzv hz
  obtain ⟨j, hj, hje⟩ := h3 _ h e he hT h0
  have h2 := (G.right (Nat.le_of_lt he) hx.1 hT).2 he
  have hx0 := hx.2 j hj
  have hy0 := hy.2 j hj
  rw [hje] at hx0 hy0
  rw [e1, hx0, hy0, Int.zero_add] at h2
  have hb := hzv.2 e he
  rw [Int.emod_eq_of_lt hb.1 hb.2] at h2
  exact h0 h2.symm
end Go.Proofs.YtmjkoejegfjbbaaGreat
namespace Go.Proofs.YtmjkoejegfjbbaaGreat
open Go.RowKit
def frI (P : Pr) (U : List (List Int)) : List Nat := (List.range P.orders.length).filter (fun i => !(U.map dep).contains i)
def ordN' (P : Pr) (i : Nat) : Nat := (gt P.orders i).toNat
def trS (P : Pr) (out : List (List Int)) (i : Nat) : List (List Int) := out.flatMap (fun x => (List.range (ordN' P i)).map (fun e => x.set i (e : Int)))
def trT (P : Pr) (is : List Nat) : List (List Int) := is.foldl (trS P) [zeros P.orders.length]
def elR (P : Pr) : List Nat → Nat → List Int
 | [], _ => zeros P.orders.length
 | i :: r, t => (elR P r (t / ordN' P i)).set i ((t % ordN' P i : Nat) : Int)
def szR (P : Pr) : List Nat → Nat
 | [] => 1
 | i :: r => szR P r * ordN' P i
theorem range_mul {α : Type} (g : Nat → Nat → α) (o : Nat) : ∀ N, (List.range N).flatMap (fun a => (List.range o).map (g a)) = (List.range (N * o)).map (fun t => g (t / o) (t % o))
 | 0 => by simp
 | N + 1 => by
  rw [List.range_succ, List.flatMap_append, range_mul g o N, Nat.succ_mul, List.range_add, List.map_append]
  congr 1
  rw [List.flatMap_singleton, List.map_map]
  refine List.map_congr_left (fun e he => ?_)
  have he' := List.mem_range.1 he
  have ho : 0 < o := by omega
  show g N e = g ((N * o + e) / o) ((N * o + e) % o)
  rw [Nat.add_comm (N * o) e, Nat.add_mul_div_right _ _ ho, Nat.div_eq_of_lt he', Nat.zero_add, Nat.add_mul_mod_self_right, Nat.mod_eq_of_lt he']
theorem trT_eq (P : Pr) : ∀ r : List Nat, trT P r.reverse = (List.range (szR P r)).map (elR P r)
 | [] => by simp [trT, szR, elR]
 | i :: r => by
  have ih := trT_eq P r
  unfold trT at ih ⊢
  rw [List.reverse_cons, List.foldl_append, ih]
  show trS P _ i = _
  unfold trS
  rw [List.flatMap_map]
  exact range_mul (fun a e => (elR P r a).set i (e : Int)) (ordN' P i) (szR P r)
end Go.Proofs.YtmjkoejegfjbbaaGreat
namespace Go.Proofs.YtmjkoejegfjbbaaGreat
open Go.RowKit
abbrev gP (P : Pr) (u : List (List Int)) : List Int → Prop := genP P (fun z => z ∈ u)
section
variable {P : Pr} (G : Grp P)
include G
end
end Go.Proofs.YtmjkoejegfjbbaaGreat
namespace Go.Proofs.YtmjkoejegfjbbaaGreat
open Go.RowKit
section
variable {P : Pr} {G : Grp P}
def toE (G : Grp P) (H : List Int → Prop) : El G → Prop := fun x => H x.1
theorem toE_sg {H : List Int → Prop} (S : Sub P H) : SG (toE G H) := ⟨S.one, fun _ _ h k => S.mul _ _ h k, fun _ h => S.inv _ h⟩
theorem order_cd {H : List Int → Prop} (S : Sub P H) : prodU P (cseq P H) (cseq P H).length = (cd (toE G H) : Int) := by
 rw [G.order_elems S]
 have h1 : ((elsIn (toE G H)).map (fun x : El G => x.1)).Nodup := by
  refine List.nodup_iff_pairwise_ne.2 ?_
  rw [List.pairwise_map]
  exact (List.nodup_iff_pairwise_ne.1 (elsIn_nodup _)).imp (fun {a b} hab e => hab (Subtype.ext e))
 have h2 := (List.perm_ext_iff_of_nodup (elemsIn_nodup G.v H) h1).2 (fun x => by
  rw [elemsIn_mem G.v S.vec, List.mem_map]
  constructor
  ·intro hx
   exact ⟨⟨x, S.vec x hx⟩, elsIn_mem.2 hx, rfl⟩
  ·rintro ⟨y, hy, rfl⟩
   exact elsIn_mem.1 hy)
 rw [h2.length_eq, List.length_map]
 rfl
def pvU (G : Grp P) (u : List (List Int)) : Nat → Prop := pv (toE G (gP P u))
theorem ordU (G : Grp P) {u : List (List Int)} (hu : SubB P u) : prodU P u u.length = (prd P (pvU G u) P.orders.length 0 : Nat) := by
 have S := G.subB hu
 have h := order_cd (G := G) S
 rw [cd_eq (toE_sg S)] at h
 have e : cseq P (genP P fun x => x ∈ u) = u := hu.2.symm
 rw [e] at h
 exact h
noncomputable def prF (P : Pr) (Q : Nat → Prop) (d : Nat) : Nat := prd P Q d 0
theorem prd_app (Q : Nat → Prop) : ∀ f d, prd P Q (f + 1) d = prd P Q f d * prd P Q 1 (d + f)
 | 0, d => by
  show prd P Q 1 d = 1 * prd P Q 1 (d + 0)
  rw [Nat.one_mul]; rfl
 | f + 1, d => by
  have ih := prd_app Q f (d + 1)
  rw [prd, ih, ← Nat.mul_assoc, show d + 1 + f = d + (f + 1) by omega]
  conv => rhs; rw [prd]
open Classical in
theorem prF_succ (Q : Nat → Prop) (d : Nat) : prF P Q (d + 1) = prF P Q d * (if Q d then (gt P.orders d).toNat else 1) := by
 unfold prF
 rw [prd_app, Nat.zero_add, prd, prd, Nat.mul_one]
end
end Go.Proofs.YtmjkoejegfjbbaaGreat
namespace Go.Proofs.YtmjkoejegfjbbaaGreat
open Go.RowKit
section
variable {P : Pr}
theorem prd_all (G : Grp P) : ((prd P (fun _ => True) P.orders.length 0 : Nat) : Int) = ordP P := by
 have key : ∀ k, k ≤ P.orders.length → ((prF P (fun _ => True) k : Nat) : Int) = prodTo P.orders k := by
  intro k
  induction k with
  | zero => intro _; rfl
  | succ k ih =>
   intro h
   obtain ⟨q, h1, h2, h3⟩ := ordN G (show k < P.orders.length by omega)
   rw [prF_succ, if_pos trivial, Int.natCast_mul, ih (by omega), h2, prodTo, h1]
 exact key _ (Nat.le_refl _)
end
end Go.Proofs.YtmjkoejegfjbbaaGreat
namespace Go.Proofs.YtmjkoejegfjbbaaGreat
open Go.RowKit
section
variable {P : Pr}
theorem frI_mem {U : List (List Int)} {i : Nat} : i ∈ frI P U ↔ i < P.orders.length ∧ ¬ i ∈ U.map dep := by
 unfold frI
 rw [List.mem_filter, List.mem_range]
 simp
theorem szR_prF (p : Nat → Bool) : ∀ k, szR P ((List.range k).filter p).reverse = prF P (fun d => p d = true) k
 | 0 => rfl
 | k + 1 => by
  rw [List.range_succ, List.filter_append, List.reverse_append, prF_succ]
  by_cases h : p k = true
  ·rw [List.filter_cons_of_pos h, List.filter_nil, List.reverse_singleton, List.singleton_append, if_pos h]
   show szR P _ * ordN' P k = _
   rw [szR_prF p k]; rfl
  ·rw [List.filter_cons_of_neg h, List.filter_nil, List.reverse_nil, List.nil_append, if_neg h, Nat.mul_one, szR_prF p k]
theorem pvU_dep (G : Grp P) {U : List (List Int)} (h : SubB P U) (d : Nat) : pvU G U d ↔ d ∈ U.map dep := by
 have S := G.subB h
 obtain ⟨h1, h2, h3⟩ := G.seq_facts S
 have e : cseq P (gP P U) = U := h.2.symm
 rw [e] at h1 h2 h3
 constructor
 ·rintro ⟨hd, x, hx, hT, h0⟩
  obtain ⟨j, hj, hjd⟩ := h3 x.1 hx d hd (dT_T.1 hT) h0
  exact List.mem_map.2 ⟨_, gt_mem hj, hjd⟩
 ·intro hm
  obtain ⟨z, hz, rfl⟩ := List.mem_map.1 hm
  obtain ⟨hv, hlt, h1z⟩ := h1.1 z hz
  exact ⟨hlt, ⟨z, hv⟩, h2 z hz, dT_T.2 (dep_T hv), by show gt z (dep z) ≠ 0; rw [h1z]; decide⟩
theorem idx_mul (G : Grp P) {U : List (List Int)} (h : SubB P U) : ordP P = prodU P U U.length * ((szR P (frI P U).reverse : Nat) : Int) := by
 have e1 : szR P (frI P U).reverse = prd P (fun d => ¬ pvU G U d) P.orders.length 0 := by
  unfold frI
  rw [szR_prF]
  exact prd_congr _ _ (fun k _ _ => by rw [pvU_dep G h]; simp)
 rw [ordU G h, e1, ← Int.natCast_mul, prd_mul _ _ (fun k _ _ hk hh => hh hk)]
 rw [← prd_all G, Int.natCast_inj]
 exact prd_congr _ _ (fun k _ _ => ⟨fun _ => Classical.em _, fun _ => trivial⟩)
theorem idx_div (G : Grp P) {U : List (List Int)} (h : SubB P U) : ordP P / prodU P U U.length = ((szR P (frI P U).reverse : Nat) : Int) := by
 have hp : 0 < prodU P U U.length := by
  rw [ordU G h]
  have := prd_pos G (pvU G U) _ _ (Nat.zero_add _)
  omega
 rw [idx_mul G h, Int.mul_comm, Int.mul_ediv_cancel _ (by omega)]
theorem elR_zr (G : Grp P) {U : List (List Int)} (t : Nat) : Zr P U (elR P (frI P U).reverse t) := by
 have key : ∀ (r : List Nat), (∀ i ∈ r, i < P.orders.length ∧ ¬ i ∈ U.map dep) → ∀ t, Vec P.orders (elR P r t) ∧ ∀ k, k ∈ U.map dep → gt (elR P r t) k = 0 := by
  intro r
  induction r with
  | nil => intro _ t; exact ⟨G.oneV, fun k _ => gt_replicate _ _⟩
  | cons i r ih =>
   intro hr t
   obtain ⟨h1, h2⟩ := ih (fun j hj => hr j (List.mem_cons_of_mem _ hj)) (t / ordN' P i)
   obtain ⟨hi, hn⟩ := hr i (List.mem_cons_self ..)
   obtain ⟨q, e1, e2, e3⟩ := ordN G hi
   have hq : ordN' P i = q := e2
   have hq2 : 2 ≤ q := by omega
   unfold elR
   refine ⟨⟨by rw [List.length_set]; exact h1.1, fun k hk => ?_⟩, fun k hk => ?_⟩
   ·by_cases hki : k = i
    ·subst hki
     rw [gt_set_eq _ _ _ (by rw [h1.1]; exact hi), hq, e1]
     have := Nat.mod_lt t (show 0 < q by omega)
     omega
    ·rw [gt_set_ne _ _ _ _ (fun h => hki h.symm)]
     exact h1.2 k hk
   ·have hki : k ≠ i := fun h => hn (h ▸ hk)
    rw [gt_set_ne _ _ _ _ (fun h => hki h.symm)]
    exact h2 k hk
 obtain ⟨h1, h2⟩ := key (frI P U).reverse (fun i hi => frI_mem.1 (List.mem_reverse.1 hi)) t
 exact ⟨h1, fun j hj => h2 _ (List.mem_map.2 ⟨_, gt_mem hj, rfl⟩)⟩
end
end Go.Proofs.YtmjkoejegfjbbaaGreat
namespace Go.Proofs.YtmjkoejegfjbbaaGreat
open Go.RowKit
end Go.Proofs.YtmjkoejegfjbbaaGreat
namespace Go.Proofs.YtmjkoejegfjbbaaGreat
open Go.RowKit
open Classical
def elOf {P : Pr} (G : Grp P) (x : List Int) (h : Vec P.orders x) : El G := ⟨x, h⟩
noncomputable def mkE {P : Pr} (G : Grp P) (x : List Int) : El G := if h : Vec P.orders x then elOf G x h else 1
theorem mkE_val {P : Pr} (G : Grp P) {x : List Int} (h : Vec P.orders x) : (mkE G x).1 = x := by unfold mkE; rw [dif_pos h]; rfl
section
variable {P : Pr} (G : Grp P)
include G
end
end Go.Proofs.YtmjkoejegfjbbaaGreat
namespace Go.Proofs.YtmjkoejegfjbbaaGreat
open Go.RowKit
open Classical
section
variable {P : Pr} (G : Grp P)
include G
theorem elR_ok : ∀ (r : List Nat), r.Nodup → (∀ i ∈ r, i < P.orders.length) → ∀ t, (elR P r t).length = P.orders.length ∧ ∀ k, ¬ k ∈ r → gt (elR P r t) k = 0
 | [], _, _, _ => ⟨G.oneV.1, fun _ _ => gt_replicate _ _⟩
 | i :: r, hn, hr, t => by
  rw [List.nodup_cons] at hn
  obtain ⟨h1, h2⟩ := elR_ok r hn.2 (fun j hj => hr j (List.mem_cons_of_mem _ hj)) (t / ordN' P i)
  unfold elR
  refine ⟨by rw [List.length_set]; exact h1, fun k hk => ?_⟩
  have hki : ¬ i = k := fun e => hk (e ▸ List.mem_cons_self ..)
  rw [gt_set_ne _ _ _ _ hki]
  exact h2 k (fun h => hk (List.mem_cons_of_mem _ h))
theorem elR_inj : ∀ (r : List Nat), r.Nodup → (∀ i ∈ r, i < P.orders.length) → ∀ t u, t < szR P r → u < szR P r → elR P r t = elR P r u → t = u
 | [], _, _, t, u, ht, hu, _ => by unfold szR at ht hu; omega
 | i :: r, hn, hr, t, u, ht, hu, e => by
  rw [List.nodup_cons] at hn
  have hr' : ∀ j ∈ r, j < P.orders.length := fun j hj => hr j (List.mem_cons_of_mem _ hj)
  obtain ⟨a1, a2⟩ := elR_ok G r hn.2 hr' (t / ordN' P i)
  obtain ⟨b1, b2⟩ := elR_ok G r hn.2 hr' (u / ordN' P i)
  have hi := hr i (List.mem_cons_self ..)
  unfold elR at e
  unfold szR at ht hu
  have ho : 0 < ordN' P i := by
   rcases Nat.eq_zero_or_pos (ordN' P i) with h | h
   ·rw [h] at ht; omega
   ·exact h
  have e1 : t % ordN' P i = u % ordN' P i := by
   have := congrArg (fun l => gt l i) e
   rw [gt_set_eq _ _ _ (by rw [a1]; exact hi), gt_set_eq _ _ _ (by rw [b1]; exact hi)] at this
   omega
  have e2 : elR P r (t / ordN' P i) = elR P r (u / ordN' P i) := by
   refine ext_gt (by rw [a1, b1]) (fun k hk => ?_)
   by_cases hki : i = k
   ·subst hki; rw [a2 _ hn.1, b2 _ hn.1]
   ·have := congrArg (fun l => gt l k) e
    rwa [gt_set_ne _ _ _ _ hki, gt_set_ne _ _ _ _ hki] at this
  have e3 := elR_inj r hn.2 hr' _ _ (Nat.div_lt_of_lt_mul (by rw [Nat.mul_comm]; exact ht)) (Nat.div_lt_of_lt_mul (by rw [Nat.mul_comm]; exact hu)) e2
  have t1 := Nat.div_add_mod t (ordN' P i)
  have u1 := Nat.div_add_mod u (ordN' P i)
  rw [e3, e1] at t1
  omega
omit G in
theorem trT_els (U : List (List Int)) : trT P (frI P U) = (List.range (szR P (frI P U).reverse)).map (elR P (frI P U).reverse) := by
 have := trT_eq P (frI P U).reverse
 rwa [List.reverse_reverse] at this
theorem Grp.els_len : ((els G).length : Int) = ordP P := by
 have hp := G.v.ordP_pos
 have h1 : ((els G).map (fun x : El G => (num P x.1).toNat)).Nodup := by
  rw [List.nodup_iff_pairwise_ne, List.pairwise_map]
  refine (List.nodup_iff_pairwise_ne.1 (els_nodup G)).imp (fun {a b} hab e => hab (Subtype.ext ?_))
  have ha := G.num_lt a.2
  have hb := G.num_lt b.2
  rw [← ha.2, ← hb.2, e]
 have h2 := (List.perm_ext_iff_of_nodup h1 (List.nodup_range (n := (ordP P).toNat))).2 (fun m => by
  rw [List.mem_map, List.mem_range]
  constructor
  ·rintro ⟨x, _, rfl⟩; exact (G.num_lt x.2).1
  ·intro hm
   have hv := elAt_vec G.v (m : Int) (by omega)
   refine ⟨mkE G (elAt P (m : Int)), els_mem G _, ?_⟩
   rw [mkE_val G hv, num_elAt G.v (m : Int) (by omega) (by omega)]
   rfl)
 have h3 := h2.length_eq
 rw [List.length_map, List.length_range] at h3
 omega
theorem Grp.trT_rep {U : List (List Int)} (hU : SubB P U) : LRep (toE G (gP P U)) ((trT P (frI P U)).map (mkE G)) := by
 have S := G.subB hU
 have SS := toE_sg (G := G) S
 have hnd : (frI P U).reverse.Nodup := by
  rw [List.nodup_iff_pairwise_ne, List.pairwise_reverse]; exact (List.nodup_iff_pairwise_ne.1 (List.nodup_range.filter _)).imp (fun h => h.symm)
 have hlt : ∀ i ∈ (frI P U).reverse, i < P.orders.length := fun i hi => (frI_mem.1 (List.mem_reverse.1 hi)).1
 have hz : ∀ x ∈ trT P (frI P U), Zr P U x := fun x hx => by
  rw [trT_els (P := P) U] at hx
  obtain ⟨t, _, rfl⟩ := List.mem_map.1 hx
  exact elR_zr G t
 have hone : ∀ t ∈ (trT P (frI P U)).map (mkE G), ∀ u ∈ (trT P (frI P U)).map (mkE G), eqv (toE G (gP P U)) t u → t = u := by
  intro t ht u hu he
  obtain ⟨x, hx, rfl⟩ := List.mem_map.1 ht
  obtain ⟨y, hy, rfl⟩ := List.mem_map.1 hu
  have zx := hz x hx
  have zy := hz y hy
  have he : gP P U (rMul P (rInv P (mkE G x).1) (mkE G y).1) := he
  rw [mkE_val G zx.1, mkE_val G zy.1] at he
  have hUe : cseq P (gP P U) = U := hU.2.symm
  have := G.zr_one S (x := x) (y := y) (by rw [hUe]; exact zx) (by rw [hUe]; exact zy) he
  rw [this]
 have hLn : ((trT P (frI P U)).map (mkE G)).Nodup := by
  rw [trT_els (P := P) U, List.map_map, List.nodup_iff_pairwise_ne, List.pairwise_map]
  refine List.pairwise_lt_range.imp_of_mem (fun {a b} ha hb hab e => ?_)
  have e2 := congrArg Subtype.val e
  simp only [Function.comp] at e2
  rw [mkE_val G (elR_zr G (U := U) a).1, mkE_val G (elR_zr G (U := U) b).1] at e2
  have := elR_inj G _ hnd hlt a b (List.mem_range.1 ha) (List.mem_range.1 hb) e2
  omega
 refine ⟨hLn, hone, ?_⟩
 have hcd : cd (fun g => ∃ t ∈ (trT P (frI P U)).map (mkE G), eqv (toE G (gP P U)) t g) = ((trT P (frI P U)).map (mkE G)).length * cd (toE G (gP P U)) := by
  refine cd_mul SS hLn ?_ hone (fun x hx => hx)
  intro t ht n hn
  refine ⟨t, ht, ?_⟩
  show toE G (gP P U) (t⁻¹ * (t * n))
  rw [El.ilc]; exact hn
 have hlen : ((trT P (frI P U)).map (mkE G)).length = szR P (frI P U).reverse := by
  rw [trT_els (P := P) U, List.length_map, List.length_map, List.length_range]
 have ho := order_cd (G := G) S
 rw [← hU.2] at ho
 have hi := Go.Proofs.YtmjkoejegfjbbaaGreat.idx_mul G hU
 have hels : ((els G).length : Int) = ordP P := G.els_len
 intro g
 have hall : (elsIn (fun g => ∃ t ∈ (trT P (frI P U)).map (mkE G), eqv (toE G (gP P U)) t g)).length = (els G).length := by
  have h1 : ((elsIn (fun g => ∃ t ∈ (trT P (frI P U)).map (mkE G), eqv (toE G (gP P U)) t g)).length : Int) = ((els G).length : Int) := by
   show ((cd _ : Nat) : Int) = _
   rw [hels, hi, hcd, hlen, Int.natCast_mul, ho, Int.mul_comm]
  omega
 have := (List.length_filter_eq_length_iff.1 hall) g (els_mem G g)
 simpa using this
end
end Go.Proofs.YtmjkoejegfjbbaaGreat
namespace Go.Proofs.YtmjkoejegfjbbaaGreat
open Go.RowKit
def oneOk (P : Pr) (U : List (List Int)) : Prop := rconsB P = true ∧ SubB P U
end Go.Proofs.YtmjkoejegfjbbaaGreat
namespace Go.Proofs.YtmjkoejegfjbbaaGreat
open Go.RowKit
def crOk (P : Pr) (U : List (List Int)) (X : List Int) : Prop := oneOk P U ∧ Vec P.orders X
def IsRep (P : Pr) (U : List (List Int)) (X Y : List Int) : Prop := Rep P (gU P U) (gt (tabTo (cseq P (gU P U)) P.orders.length (cseq P (gU P U)).length)) X Y
theorem Grp.rep_of_to {P : Pr} (G : Grp P) {U : List (List Int)} (hU : SubB P U) {X Y : List Int} (h : RepTo P (cseq P (gU P U)) X (cseq P (gU P U)).length Y) : IsRep P U X Y := by
 have S := G.subB hU
 have hf := G.seq_facts S
 refine ⟨h.vec, h.cos _ S hf.2.1, fun e he hne => ?_⟩
 obtain ⟨m1, m2, m3⟩ := (G.ind_tab S).mem e he hne
 obtain ⟨j, hj, hd⟩ := hf.2.2 _ m1 e he m2 (by rw [m3]; decide)
 rw [← hd]; exact h.zer j hj
theorem Grp.isRep_one {P : Pr} (G : Grp P) {U : List (List Int)} (hU : SubB P U) {X Y Y' : List Int} (hX : Vec P.orders X) (h : IsRep P U X Y) (h' : IsRep P U X Y') : Y = Y' :=
 G.rep_one (G.ind_tab (G.subB hU)) hX h h'
open Classical in
noncomputable def crV (P : Pr) (U : List (List Int)) (X : List Int) : List Int := if h : crOk P U X ∧ ∃ Y, IsRep P U X Y then Classical.choose h.2 else []
open Classical in
noncomputable def crC (P : Pr) (U : List (List Int)) (X : List Int) : Int := if crOk P U X then 0 else 1
theorem cr_bad {P : Pr} {U : List (List Int)} {X : List Int} (h : ¬ crOk P U X) : crC P U X = 1 ∧ crV P U X = [] := by
 unfold crC crV; rw [if_neg h, dif_neg (fun hh => h hh.1)]; exact ⟨rfl, rfl⟩
theorem crC_ok {P : Pr} {U : List (List Int)} {X : List Int} (h : crOk P U X) : crC P U X = 0 := by unfold crC; rw [if_pos h]
theorem cr_ok {P : Pr} {U : List (List Int)} {X Y : List Int} (h : crOk P U X) (hY : IsRep P U X Y) : crV P U X = Y := by
 have hh : crOk P U X ∧ ∃ Y, IsRep P U X Y := ⟨h, Y, hY⟩
 unfold crV
 rw [dif_pos hh]
 exact (grp_of_r h.1.1).isRep_one h.1.2 h.2 (Classical.choose_spec hh.2) hY
theorem cr_is {P : Pr} {U : List (List Int)} {X : List Int} (h : crOk P U X) : IsRep P U X (crV P U X) := by
 have G := grp_of_r h.1.1
 obtain ⟨Y, hY⟩ := G.rep_ex (G.ind_tab (G.subB h.1.2)) h.2
 rw [cr_ok h hY]; exact hY
set_option maxRecDepth 100000 in
set_option maxHeartbeats 4000000 in
theorem iCosRep_ok (P : Pr) (w : World) (pv uv xv : Value) (U : List (List Int)) (X : List Int) (Sp Su Sx : Nat → Prop) (hpv : PresV Sp w pv P) (hu : Rows2 Su w uv U) (hx : Ints Sx w xv X) :
  Calls Tryz.prog 85 #[pv, uv, xv] w (Ret w fun w' v => ∃ a n c, v = .tuple #[.slice a n c, .int .i64 (crC P U X)] ∧ Ints Any w' (.slice a n c) (crV P U X)) := by
 obtain ⟨vo, vp, vc, rfl, h3⟩ := hpv
 have hp0 := PresP.box h3 39
 have hg0 : Ext w (w.alloc (.cells #[vo, vp, vc] 39)) := World.grownBy_alloc _ _ _
 have hs0 : (w.alloc (.cells #[vo, vp, vc] 39)).heap.size = w.heap.size + 1 := by simp
 have hu0 := Rows2.ext hu hg0
 have hx0 := Ints.ext hx hg0
 obtain ⟨au, capu, rfl, _, _⟩ := Sl.shape hu
 obtain ⟨ax, capx, rfl, _, _⟩ := hx.shape
 have hg1 : Ext (w.alloc (.cells #[vo, vp, vc] 39)) ((w.alloc (.cells #[vo, vp, vc] 39)).alloc (.cells #[.slice au U.length capu] 32)) := World.grownBy_alloc _ _ _
 have hl := rows3One hu0
 have hcon := areSubgroups_ok P _ _ _ [U] Any Any (hp0.ext hg1) hl
 rw [hs0] at hcon
 clear hl hu hx
 go_enter Tryz.func85, Tryz.ntmps85
 go_wp2_with fail
 refine Calls.mono hcon ?_
 rintro e1 w1 ⟨v1, rfl, hgA, r1, rfl, hr1⟩
 clear hcon
 have hr1 : r1 = true ↔ oneOk P U := by rw [hr1]; unfold oneOk; simp
 have hg01 := grown_trans hg1 hgA
 have HS := Lib.hid hs0; clear hs0
 generalize hw0 : w.alloc (.cells #[vo, vp, vc] 39) = w0 at *
 clear hw0 hg1 hgA
 cases r1 with
 | false =>
  obtain ⟨hc, hL⟩ := cr_bad (P := P) (U := U) (X := X) (fun h => by have := hr1.2 h.1; cases this)
  have HC := Lib.hid (And.intro hc hL); clear hc hL hr1
  go_wp2
  go_ret2
  exact ⟨_, rfl, grown_trans hg0 hg01, none, 0, 0, by rw [HC.out.1]; rfl, by rw [HC.out.2]; exact ⟨none, 0, rfl, ⟨by simp, by simp, fun _ => rfl⟩, fun i hi => by simp at hi⟩⟩
 | true =>
  have hok := hr1.1 rfl
  have G := grp_of_r hok.1
  have hn6 := G.v.n6
  have hx1 := Ints.ext hx0 hg01
  have hex := isExponents_ok w1 _ _ P X Any Sx (hp0.ext hg01) hx1 (fun i hi => by have := G.v.ord7 i hi; omega)
  by_cases hX : Vec P.orders X
  ·rw [expB_vec.2 hX] at hex
   have hcr : crOk P U X := ⟨hok, hX⟩
   have hc := crC_ok hcr
   have hU := hok.2.2
   have hf := G.seq_facts (G.subB hok.2)
   have hul : U.length ≤ P.orders.length := G.sub_len hok.2
   rw [← hU] at hf
   have HC := Lib.hid (And.intro hc (And.intro hcr (And.intro hf hU))); clear hc hcr hr1 hok hf hU hX
   go_wp2_with fail
   refine Calls.mono hex ?_
   rintro _ _ ⟨rfl, rfl⟩
   clear hex
   go_wp2_with fail
   refine Calls.mono (representative_ok P G w1 _ _ _ U X Any Su Sx (hp0.ext hg01) (Rows2.ext hu0 hg01) HC.out.2.2.1.1 (by omega) hx1 HC.out.2.1.2) ?_
   rintro e2 w2 ⟨v2, rfl, hg2, Y, hO, hR⟩
   have hR' : RepTo P (cseq P (gU P U)) X (cseq P (gU P U)).length Y := by rw [← HC.out.2.2.2]; exact hR
   have hY := cr_ok HC.out.2.1 (G.rep_of_to HC.out.2.1.1.2 hR')
   have hYi := hO.ints (by rw [hR.vec.1]; omega)
   obtain ⟨ay, ny, cy, hvy⟩ : ∃ a n c, v2 = Value.slice a n c := by obtain ⟨a, c, e, _⟩ := hYi.shape; exact ⟨_, _, _, e⟩
   subst hvy
   have HY := Lib.hid (And.intro hY hYi); clear hY hYi hO hR hR'
   go_wp2
   go_ret2
   exact ⟨_, rfl, grown_trans hg0 (grown_trans hg01 hg2), _, _, _, by rw [HC.out.1]; rfl, by rw [HY.out.1]; exact HY.out.2⟩
  ·have hxf : expB P.orders X = false := by cases h : expB P.orders X with | false => rfl | true => exact absurd (expB_vec.1 h) hX
   rw [hxf] at hex
   obtain ⟨hc, hL⟩ := cr_bad (P := P) (U := U) (X := X) (fun h => hX h.2)
   have HC := Lib.hid (And.intro hc hL); clear hc hL hr1 hok hX hxf
   go_wp2_with fail
   refine Calls.mono hex ?_
   rintro _ _ ⟨rfl, rfl⟩
   clear hex
   go_wp2
   go_ret2
   exact ⟨_, rfl, grown_trans hg0 hg01, none, 0, 0, by rw [HC.out.1]; rfl, by rw [HC.out.2]; exact ⟨none, 0, rfl, ⟨by simp, by simp, fun _ => rfl⟩, fun i hi => by simp at hi⟩⟩
end Go.Proofs.YtmjkoejegfjbbaaGreat
namespace Go.Proofs.YtmjkoejegfjbbaaGreat
open Go.RowKit
def nmR (P : Pr) : List Nat → List Int → Nat
 | [], _ => 0
 | i :: r, y => nmR P r y * ordN' P i + (gt y i).toNat
theorem nmR_set (P : Pr) (i : Nat) (x : Int) (y : List Int) : ∀ r : List Nat, ¬ i ∈ r → nmR P r (y.set i x) = nmR P r y
 | [], _ => rfl
 | j :: r, h => by
  have hj : ¬ i = j := fun e => h (by rw [e]; exact List.mem_cons_self ..)
  unfold nmR
  rw [nmR_set P i x y r (fun e => h (List.mem_cons_of_mem _ e)), gt_set_ne _ _ _ _ hj]
section
variable {P : Pr} (G : Grp P)
include G
theorem nmR_elR : ∀ (r : List Nat), r.Nodup → (∀ i ∈ r, i < P.orders.length) → ∀ t, t < szR P r → nmR P r (elR P r t) = t
 | [], _, _, t, ht => by unfold szR at ht; unfold nmR; omega
 | i :: r, hn, hr, t, ht => by
  rw [List.nodup_cons] at hn
  have hr' : ∀ j ∈ r, j < P.orders.length := fun j hj => hr j (List.mem_cons_of_mem _ hj)
  have hi := hr i (List.mem_cons_self ..)
  obtain ⟨a1, _⟩ := elR_ok G r hn.2 hr' (t / ordN' P i)
  unfold szR at ht
  have ih := nmR_elR r hn.2 hr' (t / ordN' P i) (Nat.div_lt_of_lt_mul (by rw [Nat.mul_comm]; exact ht))
  unfold nmR elR
  rw [nmR_set P i _ _ r hn.1, ih, gt_set_eq _ _ _ (by rw [a1]; exact hi), Int.toNat_natCast, Nat.mul_comm]
  exact Nat.div_add_mod _ _
omit G in
theorem frR_nodup (U : List (List Int)) : (frI P U).reverse.Nodup := by
 rw [List.nodup_iff_pairwise_ne, List.pairwise_reverse]; exact (List.nodup_iff_pairwise_ne.1 (List.nodup_range.filter _)).imp (fun h => h.symm)
omit G in
theorem frR_lt (U : List (List Int)) : ∀ i ∈ (frI P U).reverse, i < P.orders.length := fun _ hi => (frI_mem.1 (List.mem_reverse.1 hi)).1
theorem szR_le : ∀ r : List Nat, (∀ i ∈ r, i < P.orders.length) → szR P r ≤ 7 ^ r.length
 | [], _ => by unfold szR; simp
 | i :: r, h => by
  have h7 := G.v.ord7 i (h i (List.mem_cons_self ..))
  have ih := szR_le r (fun j hj => h j (List.mem_cons_of_mem _ hj))
  unfold szR
  rw [List.length_cons, Nat.pow_succ]
  exact Nat.mul_le_mul ih (by unfold ordN'; omega)
omit G in
theorem nmR_lt {Y : List Int} (hY : Vec P.orders Y) : ∀ r : List Nat, (∀ i ∈ r, i < P.orders.length) → nmR P r Y < szR P r
 | [], _ => by unfold nmR szR; omega
 | i :: r, h => by
  have hi := h i (List.mem_cons_self ..)
  have hy := hY.2 i hi
  have ih := nmR_lt hY r (fun j hj => h j (List.mem_cons_of_mem _ hj))
  unfold nmR szR
  have h1 : (gt Y i).toNat < ordN' P i := by unfold ordN'; omega
  have h2 : (nmR P r Y + 1) * ordN' P i ≤ szR P r * ordN' P i := Nat.mul_le_mul_right _ ih
  rw [Nat.succ_mul] at h2
  omega
theorem Grp.tr_num {U : List (List Int)} {t : Nat} (ht : t < szR P (frI P U).reverse) : nmR P (frI P U).reverse (elR P (frI P U).reverse t) = t :=
 nmR_elR G _ (frR_nodup U) (frR_lt U) t ht
theorem Grp.zr_el {U : List (List Int)} (hU : SubB P U) {y : List Int} (hy : Zr P U y) : ∃ t, t < szR P (frI P U).reverse ∧ y = elR P (frI P U).reverse t := by
 have S := G.subB hU
 obtain ⟨x, hx, he⟩ := (G.trT_rep hU).all (mkE G y)
 obtain ⟨z, hz, rfl⟩ := List.mem_map.1 hx
 rw [trT_els (P := P) U] at hz
 obtain ⟨t, ht, rfl⟩ := List.mem_map.1 hz
 refine ⟨t, List.mem_range.1 ht, ?_⟩
 have zx := elR_zr G (U := U) t
 have he : gP P U (rMul P (rInv P (mkE G (elR P (frI P U).reverse t)).1) (mkE G y).1) := he
 rw [mkE_val G zx.1, mkE_val G hy.1] at he
 have hUe : cseq P (gP P U) = U := hU.2.symm
 exact (G.zr_one S (x := elR P (frI P U).reverse t) (y := y) (by rw [hUe]; exact zx) (by rw [hUe]; exact hy) he).symm
theorem Grp.tr_lt {U : List (List Int)} (hU : SubB P U) {y : List Int} (hy : Zr P U y) : nmR P (frI P U).reverse y < szR P (frI P U).reverse ∧ elR P (frI P U).reverse (nmR P (frI P U).reverse y) = y := by
 obtain ⟨t, ht, rfl⟩ := G.zr_el hU hy
 rw [G.tr_num ht]; exact ⟨ht, rfl⟩
theorem Grp.isRep_zr {U : List (List Int)} (hU : SubB P U) {X Y : List Int} (h : IsRep P U X Y) : Zr P U Y := by
 have S := G.subB hU
 obtain ⟨h1, _, _⟩ := G.seq_facts S
 have e : cseq P (gU P U) = U := hU.2.symm
 rw [e] at h1
 refine ⟨h.1, fun j hj => ?_⟩
 have hd : dep (gt U j) < P.orders.length := (h1.1 _ (gtMem hj)).2.1
 refine h.2.2 _ hd ?_
 show gt (tabTo (cseq P (gU P U)) P.orders.length (cseq P (gU P U)).length) (dep (gt U j)) ≠ []
 rw [e]
 rcases tabTo_at P U U.length (Nat.le_refl _) _ hd with ⟨_, h2⟩ | ⟨k, hk, hkd, he⟩
 ·exact absurd rfl (h2 j hj)
 ·rw [he]
  intro hc
  have hv := (h1.1 _ (gtMem hk)).1.1
  rw [hc] at hv
  simp at hv
  omega
noncomputable def cnV (P : Pr) (U : List (List Int)) (X : List Int) : Nat := nmR P (frI P U).reverse (crV P U X)
noncomputable def caV (P : Pr) (U : List (List Int)) (X : List Int) (t : Nat) : Nat := cnV P U (rMul P (rInv P X) (elR P (frI P U).reverse t))
theorem Grp.cn_spec (hr : rconsB P = true) {U : List (List Int)} (hU : SubB P U) {X : List Int} (hX : Vec P.orders X) : cnV P U X < szR P (frI P U).reverse ∧ elR P (frI P U).reverse (cnV P U X) = crV P U X ∧ gU P U (rMul P (rInv P X) (elR P (frI P U).reverse (cnV P U X))) := by
 have hk : crOk P U X := ⟨⟨hr, hU⟩, hX⟩
 have hi := cr_is hk
 have h := G.tr_lt hU (G.isRep_zr hU hi)
 refine ⟨h.1, h.2, ?_⟩
 show gU P U (rMul P (rInv P X) (elR P (frI P U).reverse (nmR P (frI P U).reverse (crV P U X))))
 rw [h.2]; exact hi.2.1
theorem Grp.cn_eq (hr : rconsB P = true) {U : List (List Int)} (hU : SubB P U) {X Y : List Int} (hX : Vec P.orders X) (hY : Vec P.orders Y) : cnV P U X = cnV P U Y ↔ gU P U (rMul P (rInv P X) Y) := by
 have S := G.subB hU
 obtain ⟨x1, x2, x3⟩ := G.cn_spec hr hU hX
 obtain ⟨y1, y2, y3⟩ := G.cn_spec hr hU hY
 have hXi := G.invV hX
 have hYi := G.invV hY
 have zx := elR_zr G (U := U) (cnV P U X)
 have zy := elR_zr G (U := U) (cnV P U Y)
 -- x^-1 y = (x^-1 r) (r^-1 r') (y^-1 r')^-1
 have key : ∀ {a b c : List Int}, Vec P.orders a → Vec P.orders b → Vec P.orders c → gU P U (rMul P (rInv P a) b) → gU P U (rMul P (rInv P b) c) → gU P U (rMul P (rInv P a) c) := fun {a b c} ha hb hc h1 h2 => by
  have := S.mul _ _ h1 h2
  have e : rMul P (rMul P (rInv P a) b) (rMul P (rInv P b) c) = rMul P (rInv P a) c := by
   rw [G.ass (G.invV ha) hb (G.mulV (G.invV hb) hc), ← G.ass hb (G.invV hb) hc, G.mul_inv hb, G.grp.el _ hc]
  rwa [e] at this
 have sym : ∀ {a b : List Int}, Vec P.orders a → Vec P.orders b → gU P U (rMul P (rInv P a) b) → gU P U (rMul P (rInv P b) a) := fun {a b} ha hb h => by
  have := S.inv _ h
  rwa [G.inv_mulR (G.invV ha) hb, G.inv_inv ha] at this
 constructor
 ·intro e
  rw [← e] at y3
  exact key hX zx.1 hY x3 (sym hY zx.1 y3)
 ·intro h
  have h2 : gU P U (rMul P (rInv P (elR P (frI P U).reverse (cnV P U X))) (elR P (frI P U).reverse (cnV P U Y))) := key zx.1 hX zy.1 (sym hX zx.1 x3) (key hX hY zy.1 h y3)
  have hUe : cseq P (gP P U) = U := hU.2.symm
  have h3 := G.zr_one S (by rw [hUe]; exact zx) (by rw [hUe]; exact zy) h2
  have h4 := congrArg (nmR P (frI P U).reverse) h3
  rwa [G.tr_num x1, G.tr_num y1] at h4
theorem Grp.ca_lt (hr : rconsB P = true) {U : List (List Int)} (hU : SubB P U) {X : List Int} (hX : Vec P.orders X) (t : Nat) : caV P U X t < szR P (frI P U).reverse :=
 (G.cn_spec hr hU (G.mulV (G.invV hX) (elR_zr G (U := U) t).1)).1
theorem Grp.ca_inj (hr : rconsB P = true) {U : List (List Int)} (hU : SubB P U) {X : List Int} (hX : Vec P.orders X) {s t : Nat} (hs : s < szR P (frI P U).reverse) (ht : t < szR P (frI P U).reverse) (h : caV P U X s = caV P U X t) : s = t := by
 have S := G.subB hU
 have zs := (elR_zr G (U := U) s)
 have zt := (elR_zr G (U := U) t)
 have hXi := G.invV hX
 have h1 := (G.cn_eq hr hU (G.mulV hXi zs.1) (G.mulV hXi zt.1)).1 h
 have e : rMul P (rInv P (rMul P (rInv P X) (elR P (frI P U).reverse s))) (rMul P (rInv P X) (elR P (frI P U).reverse t)) = rMul P (rInv P (elR P (frI P U).reverse s)) (elR P (frI P U).reverse t) := by
  rw [G.inv_mulR hXi zs.1, G.inv_inv hX, G.ass (G.invV zs.1) hX (G.mulV hXi zt.1), ← G.ass hX hXi zt.1, G.mul_inv hX, G.grp.el _ zt.1]
 rw [e] at h1
 have hUe : cseq P (gP P U) = U := hU.2.symm
 have h3 := G.zr_one S (by rw [hUe]; exact zs) (by rw [hUe]; exact zt) h1
 have h4 := congrArg (nmR P (frI P U).reverse) h3
 rwa [G.tr_num hs, G.tr_num ht] at h4
theorem Grp.ca_mul (hr : rconsB P = true) {U : List (List Int)} (hU : SubB P U) {X Y : List Int} (hX : Vec P.orders X) (hY : Vec P.orders Y) (t : Nat) : caV P U Y (caV P U X t) = caV P U (rMul P X Y) t := by
 have S := G.subB hU
 have zt := (elR_zr G (U := U) t).1
 have hXi := G.invV hX
 have hYi := G.invV hY
 have hXt := G.mulV hXi zt
 obtain ⟨_, _, h3⟩ := G.cn_spec hr hU hXt
 have h3 : gU P U (rMul P (rInv P (rMul P (rInv P X) (elR P (frI P U).reverse t))) (elR P (frI P U).reverse (caV P U X t))) := h3
 have zr := (elR_zr G (U := U) (caV P U X t)).1
 refine (G.cn_eq hr hU (G.mulV hYi zr) (G.mulV (G.invV (G.mulV hX hY)) zt)).2 ?_
 have e1 : rMul P (rInv P (rMul P X Y)) (elR P (frI P U).reverse t) = rMul P (rInv P Y) (rMul P (rInv P X) (elR P (frI P U).reverse t)) := by
  rw [G.inv_mulR hX hY, G.ass hYi hXi zt]
 rw [e1]
 have e2 : rMul P (rInv P (rMul P (rInv P Y) (elR P (frI P U).reverse (caV P U X t)))) (rMul P (rInv P Y) (rMul P (rInv P X) (elR P (frI P U).reverse t))) = rMul P (rInv P (elR P (frI P U).reverse (caV P U X t))) (rMul P (rInv P X) (elR P (frI P U).reverse t)) := by
  rw [G.inv_mulR hYi zr, G.inv_inv hY, G.ass (G.invV zr) hY (G.mulV hYi hXt), ← G.ass hY hYi hXt, G.mul_inv hY, G.grp.el _ hXt]
 rw [e2]
 have := S.inv _ h3
 rwa [G.inv_mulR (G.invV hXt) zr, G.inv_inv hXt] at this
end
end Go.Proofs.YtmjkoejegfjbbaaGreat
namespace Go.Proofs.YtmjkoejegfjbbaaGreat
section
variable {α : Type} {m : α → α → α} {e : α} {P : Pr} {h : Nat → α}
/-! ### words -/
end
/-! ### bijections -/
def BijL (N : Nat) (a : List Int) : Prop := a.length = N ∧ (∀ t, t < N → 0 ≤ gt a t ∧ gt a t < N) ∧ ∀ s t, s < N → t < N → gt a s = gt a t → s = t
def aft (a b : List Int) : List Int := a.map (fun x => gt b x.toNat)
theorem aft_len (a b : List Int) : (aft a b).length = a.length := by unfold aft; rw [List.length_map]
theorem gt_aft {a b : List Int} {t : Nat} (h : t < a.length) : gt (aft a b) t = gt b (gt a t).toNat := by unfold aft; rw [gt_map _ _ _ h]
end Go.Proofs.YtmjkoejegfjbbaaGreat
namespace Go.Proofs.YtmjkoejegfjbbaaGreat
open Go.RowKit
def ixN (P : Pr) (U : List (List Int)) : Nat := szR P (frI P U).reverse
open Classical in
noncomputable def caC (P : Pr) (U : List (List Int)) (X : List Int) : Int := if crOk P U X then (if 128 < ixN P U then 3 else 0) else 1
noncomputable def caL0 (P : Pr) (U : List (List Int)) (X : List Int) : List Int := (List.range (ixN P U)).map (fun t : Nat => ((caV P U X t : Nat) : Int))
noncomputable def caL (P : Pr) (U : List (List Int)) (X : List Int) : List Int := if caC P U X = 0 then caL0 P U X else []
theorem ca_bad {P : Pr} {U : List (List Int)} {X : List Int} (h : ¬ crOk P U X) : caC P U X = 1 ∧ caL P U X = [] := by
 have h1 : caC P U X = 1 := by unfold caC; rw [if_neg h]
 exact ⟨h1, by unfold caL; rw [h1]; rfl⟩
theorem ca_big {P : Pr} {U : List (List Int)} {X : List Int} (h : crOk P U X) (h2 : 128 < ixN P U) : caC P U X = 3 ∧ caL P U X = [] := by
 have h1 : caC P U X = 3 := by unfold caC; rw [if_pos h, if_pos h2]
 exact ⟨h1, by unfold caL; rw [h1]; rfl⟩
theorem ca_ok {P : Pr} {U : List (List Int)} {X : List Int} (h : crOk P U X) (h2 : ¬ 128 < ixN P U) : caC P U X = 0 ∧ caL P U X = caL0 P U X := by
 have h1 : caC P U X = 0 := by unfold caC; rw [if_pos h, if_neg h2]
 exact ⟨h1, by unfold caL; rw [h1]; rfl⟩
theorem ca_zero {P : Pr} {U : List (List Int)} {X : List Int} (h : caC P U X = 0) : crOk P U X ∧ ixN P U ≤ 128 := by
 by_cases h1 : crOk P U X
 ·by_cases h2 : 128 < ixN P U
  ·rw [(ca_big h1 h2).1] at h; omega
  ·exact ⟨h1, by omega⟩
 ·rw [(ca_bad h1).1] at h; omega
theorem caL0_len (P : Pr) (U : List (List Int)) (X : List Int) : (caL0 P U X).length = ixN P U := by unfold caL0; rw [List.length_map, List.length_range]
theorem gt_caL0 {P : Pr} {U : List (List Int)} {X : List Int} {t : Nat} (h : t < ixN P U) : gt (caL0 P U X) t = ((caV P U X t : Nat) : Int) := by
 unfold caL0
 rw [gt_map _ _ _ (by rw [List.length_range]; exact h)]
 have e : gt (List.range (ixN P U)) t = t := by simp [gt, h]
 rw [e]
section
variable {P : Pr} (G : Grp P)
include G
theorem Grp.ca_bij (hr : rconsB P = true) {U : List (List Int)} (hU : SubB P U) {X : List Int} (hX : Vec P.orders X) : BijL (ixN P U) (caL0 P U X) := by
 refine ⟨caL0_len P U X, fun t ht => ?_, fun s t hs ht e => ?_⟩
 ·have h : caV P U X t < ixN P U := G.ca_lt hr hU hX t
  rw [gt_caL0 ht]; omega
 ·rw [gt_caL0 hs, gt_caL0 ht] at e
  exact G.ca_inj hr hU hX hs ht (by omega)
theorem Grp.ca_aft (hr : rconsB P = true) {U : List (List Int)} (hU : SubB P U) {X Y : List Int} (hX : Vec P.orders X) (hY : Vec P.orders Y) : aft (caL0 P U X) (caL0 P U Y) = caL0 P U (rMul P X Y) := by
 apply ext_gt
 ·rw [aft_len, caL0_len, caL0_len]
 ·intro t ht
  rw [aft_len, caL0_len] at ht
  have h : caV P U X t < ixN P U := G.ca_lt hr hU hX t
  rw [gt_aft (by rw [caL0_len]; exact ht), gt_caL0 ht, gt_caL0 ht, Int.toNat_natCast, gt_caL0 h, G.ca_mul hr hU hX hY t]
omit G in
theorem Grp.tr_len (_G : Grp P) {U : List (List Int)} : (trT P (frI P U)).length = ixN P U := by
 rw [trT_els (P := P) U, List.length_map, List.length_range]; rfl
omit G in
theorem Grp.gt_tr (_G : Grp P) {U : List (List Int)} {t : Nat} (ht : t < ixN P U) : gt (trT P (frI P U)) t = elR P (frI P U).reverse t := by
 rw [trT_els (P := P) U, gt_map _ _ _ (by rw [List.length_range]; exact ht)]
 have ht2 : t < szR P (frI P U).reverse := ht
 have e : gt (List.range (szR P (frI P U).reverse)) t = t := by simp [gt, ht2]
 rw [e]
theorem Grp.cn_tr (hr : rconsB P = true) {U : List (List Int)} (hU : SubB P U) {t : Nat} (ht : t < ixN P U) : Vec P.orders (gt (trT P (frI P U)) t) ∧ cnV P U (gt (trT P (frI P U)) t) = t := by
 have S := G.subB hU
 have zt := elR_zr G (U := U) t
 have hUe : cseq P (gP P U) = U := hU.2.symm
 rw [G.gt_tr ht]
 refine ⟨zt.1, ?_⟩
 obtain ⟨h1, h2, h3⟩ := G.cn_spec hr hU zt.1
 have h4 := G.zr_one S (by rw [hUe]; exact zt) (by rw [hUe]; exact elR_zr G (U := U) _) h3
 have h5 := congrArg (nmR P (frI P U).reverse) h4
 rw [G.tr_num ht, G.tr_num h1] at h5
 exact h5.symm
theorem Grp.tr_cr (hr : rconsB P = true) {U : List (List Int)} (hU : SubB P U) {X : List Int} (hX : Vec P.orders X) : cnV P U X < ixN P U ∧ gt (trT P (frI P U)) (cnV P U X) = crV P U X := by
 obtain ⟨h1, h2, _⟩ := G.cn_spec hr hU hX
 exact ⟨h1, by rw [G.gt_tr h1, h2]⟩
theorem Grp.ix_mul {U : List (List Int)} (hU : SubB P U) : ((ixN P U : Nat) : Int) * prodU P U U.length = ordP P := by
 rw [Int.mul_comm]; exact (Go.Proofs.YtmjkoejegfjbbaaGreat.idx_mul G hU).symm
end
end Go.Proofs.YtmjkoejegfjbbaaGreat
namespace Go.Proofs.YtmjkoejegfjbbaaGreat
open Go.RowKit
set_option maxRecDepth 100000 in
set_option maxHeartbeats 4000000 in
theorem iOrder_ok (P : Pr) (hr : rconsB P = true) (w : World) (pv uv : Value) (U : List (List Int)) (Sp Su : Nat → Prop) (hpv : PresV Sp w pv P) (hu : Rows2 Su w uv U) (hU : SubB P U) :
  Calls Tryz.prog 83 #[pv, uv] w (Ret w fun _ v => v = .tuple #[.int .i64 (prodU P U U.length), .int .i64 0]) := by
 have G := grp_of_r hr
 have hn6 := G.v.n6
 obtain ⟨vo, vp, vc, rfl, h3⟩ := hpv
 have hp0 := PresP.box h3 39
 have hg0 : Ext w (w.alloc (.cells #[vo, vp, vc] 39)) := World.grownBy_alloc _ _ _
 have hs0 : (w.alloc (.cells #[vo, vp, vc] 39)).heap.size = w.heap.size + 1 := by simp
 have hu0 := Rows2.ext hu hg0
 obtain ⟨au, capu, rfl, _, _⟩ := Sl.shape hu
 have hg1 : Ext (w.alloc (.cells #[vo, vp, vc] 39)) ((w.alloc (.cells #[vo, vp, vc] 39)).alloc (.cells #[.slice au U.length capu] 32)) := World.grownBy_alloc _ _ _
 have hl := rows3One hu0
 have hcon := areSubgroups_ok P _ _ _ [U] Any Any (hp0.ext hg1) hl
 rw [hs0] at hcon
 clear hl hu
 have hulU : U.length ≤ P.orders.length := G.sub_len hU
 have HH := Lib.hid (And.intro hr (And.intro hU ((trivial : True)))); clear hr hU
 go_enter Tryz.func83, Tryz.ntmps83
 go_wp2_with fail
 refine Calls.mono hcon ?_
 rintro e1 w1 ⟨v1, rfl, hgA, r1, rfl, hr1⟩
 clear hcon
 obtain rfl : r1 = true := hr1.2 (by have := HH.out; simp only [List.mem_cons, List.mem_nil_iff, or_false]; exact ⟨this.1, fun u hu => by subst hu; exact this.2.1⟩)
 clear hr1
 have hg01 := grown_trans hg1 hgA
 have HS := Lib.hid hs0; clear hs0
 generalize hw0 : (w.alloc (.cells #[vo, vp, vc] 39)) = w0 at *
 clear hw0 hg1 hgA
 have hp1 := hp0.ext hg01
 have hu1 := Rows2.ext hu0 hg01
 have hfac := G.seq_facts (G.subB HH.out.2.1)
 rw [← HH.out.2.1.2] at hfac
 have HF := Lib.hid hfac; clear hfac
 go_wp2_with fail
 refine Calls.mono (sizeOf_ok P G.v w1 _ _ U Any Su hp1 hu1 HF.out.1 (by omega)) ?_
 rintro e2 w2 ⟨v2, rfl, hg2, rfl⟩
 go_wp2
 go_ret2
 exact ⟨_, rfl, grown_trans hg0 (grown_trans hg01 hg2), rfl⟩
end Go.Proofs.YtmjkoejegfjbbaaGreat
namespace Go.Proofs.YtmjkoejegfjbbaaGreat
open Go.RowKit
set_option maxRecDepth 100000 in
set_option maxHeartbeats 1000000 in
theorem indexI_ok (l : List Int) (x : Int) (w : World) (v : Value) (S : Nat → Prop) (hv : Ints S w v l) :
  Calls Tryz.prog 348 #[v, .int .i64 x] w (Ret w fun _ r => ∃ k : Int, r = .int .i64 k ∧ (0 ≤ k ↔ x ∈ l)) := by
 obtain ⟨a, c, rfl, _, _⟩ := hv.shape
 have HV := Lib.hid hv; clear hv
 go_enter Tryz.func348, Tryz.ntmps348
 go_wp2
 go_loopw [8] (fun iv wr => ∃ i : Nat, iv = .int .i64 i ∧ i ≤ l.length ∧ Ext w wr ∧ Hid (∀ j, j < i → gt l j ≠ x)) (fun iv _ => l.length - (intOf iv).toNat)
 case atStart => exact ⟨0, by go_num, by omega, Ext.refl _, Lib.hid (fun j hj => by omega)⟩
 case round =>
  obtain ⟨i, rfl, hi, hg, hN⟩ := hrel
  by_cases hlt : i < l.length
  ·have hlt' : (i : Int) < l.length := by omega
   obtain ⟨b, o, hab, _, _, hc⟩ := Ints.at HV.out i hlt
   subst hab
   have hcr := hg.cell hc (by simp)
   by_cases he : gt l i = x
   ·have hd : x ∈ l := by rw [← he]; exact gt_mem hlt
    rw [he] at hcr
    have HD := Lib.hid hd; clear hd he hc
    go_wp2
    go_ret
    exact ⟨_, rfl, hg, (i : Int), rfl, ⟨fun _ => HD.out, fun _ => by omega⟩⟩
   ·have hne : (x == gt l i) = false := by
     have : ¬ x = gt l i := fun e => he e.symm
     simpa using this
    have hN2 : ∀ j, j < i + 1 → gt l j ≠ x := fun j hj => by
     rcases Nat.lt_succ_iff_lt_or_eq.1 hj with h | h
     ·exact hN.out j h
     ·rw [h]; exact he
    have HN2 := Lib.hid hN2; clear hN2 he hc hN
    generalize gt l i = y at *
    go_wp2
    clear hne
    go_roundw
    case rel => exact ⟨i + 1, by go_num, by omega, hg, HN2⟩
    case measure => simp [intOf]; omega
  ·have hie : i = l.length := by omega
   have hd : ¬ x ∈ l := fun h => by
    obtain ⟨j, hj, e⟩ := mem_gt h
    exact hN.out j (by omega) e
   have hnl : ¬ (i : Int) < l.length := by omega
   have HD := Lib.hid hd; clear hd hie hN
   go_wp2
   go_ret
   exact ⟨_, rfl, hg, -1, rfl, ⟨fun h => by omega, fun h => absurd h HD.out⟩⟩
set_option maxRecDepth 100000 in
set_option maxHeartbeats 1000000 in
theorem containsI_ok (l : List Int) (x : Int) (w : World) (v : Value) (S : Nat → Prop) (hv : Ints S w v l) :
  Calls Tryz.prog 246 #[v, .int .i64 x] w (Ret w fun _ r => r = .bool (decide (x ∈ l))) := by
 have hi := indexI_ok l x w v S hv
 obtain ⟨a, c, rfl, _, _⟩ := hv.shape
 go_enter Tryz.func246, Tryz.ntmps246
 go_wp2_with fail
 refine Calls.mono hi ?_
 rintro e1 w1 ⟨v1, rfl, hg1, k, rfl, hk⟩
 have HK := Lib.hid hk; clear hk hi
 go_wp2
 go_ret
 refine ⟨_, rfl, hg1, ?_⟩
 show Value.bool (decide (0 ≤ k)) = _
 rw [decide_eq_decide.2 HK.out]
def idxV (l : List Nat) : List Value := l.map (fun i : Nat => Value.int .i64 (i : Int))
def frT (U : List (List Int)) (k : Nat) : List Nat := (List.range k).filter (fun i => !(U.map dep).contains i)
theorem frT_yes {U : List (List Int)} {k : Nat} (h : ¬ k ∈ U.map dep) : frT U (k + 1) = frT U k ++ [k] := by
 unfold frT
 rw [List.range_succ, List.filter_append, List.filter_cons_of_pos (by simpa using h), List.filter_nil]
theorem frT_no {U : List (List Int)} {k : Nat} (h : k ∈ U.map dep) : frT U (k + 1) = frT U k := by
 unfold frT
 rw [List.range_succ, List.filter_append, List.filter_cons_of_neg (by simpa using h), List.filter_nil, List.append_nil]
theorem frT_len (U : List (List Int)) (k : Nat) : (frT U k).length ≤ k := by
 unfold frT; exact Nat.le_trans (List.length_filter_le _ _) (by rw [List.length_range]; exact Nat.le_refl _)
theorem depV_map (U : List (List Int)) : depV U = (U.map (fun z => (dep z : Int))).map (Value.int .i64) := by unfold depV; rw [List.map_map]; rfl
theorem dep_mem {U : List (List Int)} {k : Nat} : ((k : Nat) : Int) ∈ U.map (fun z => (dep z : Int)) ↔ k ∈ U.map dep := by
 rw [List.mem_map, List.mem_map]
 constructor
 ·rintro ⟨z, hz, e⟩; exact ⟨z, hz, by omega⟩
 ·rintro ⟨z, hz, e⟩; exact ⟨z, hz, by rw [e]⟩
set_option maxRecDepth 100000 in
set_option maxHeartbeats 2000000 in
theorem otherIndices_ok (P : Pr) (hn6 : P.orders.length ≤ 6) (w : World) (p uv : Value) (U : List (List Int)) (Sp Su : Nat → Prop) (hp : PresP Sp w p P) (hu : Rows2 Su w uv U) (hU : ∀ z ∈ U, dep z < z.length) (hul : U.length ≤ 6) :
  Calls Tryz.prog 307 #[p, uv] w (Ret w fun w' r => OwnV w.heap.size 3 w' r (idxV (frI P U))) := by
 obtain ⟨pb, po, rfl⟩ := hp.shape
 have hp0 := hp
 obtain ⟨ao, co, hco, hoi⟩ := hp.ordAt
 obtain ⟨au, capu, rfl, _, _⟩ := Sl.shape hu
 go_enter Tryz.func307, Tryz.ntmps307
 go_wp2_with fail
 refine Calls.mono (pivots_ok _ U w Su hu hU (by omega)) ?_
 rintro e1 w1 ⟨v1, rfl, hg1, hO⟩
 have hdl : (depV U).length ≤ 6 := by unfold depV; rw [List.length_map]; exact hul
 rw [depV_map] at hO hdl
 have hI := ints_of_ownV (S := Any) hO (by rw [List.length_map]; rw [List.length_map] at hdl; omega) (fun _ _ => trivial)
 obtain ⟨dv, hdv⟩ : ∃ dv, dv = U.map (fun z => (dep z : Int)) := ⟨_, rfl⟩
 rw [← hdv] at hI
 obtain ⟨da, dc, rfl, _, _⟩ := hI.shape
 have hIx : ∀ w', Ext w1 w' → Ints Any w' (.slice da dv.length dc) dv := fun w' h => Ints.ext hI h
 have HI := Lib.hid (And.intro hdv hIx); clear hdv hIx hI hO hdl
 have hc1 := hg1.cell hco (by simp)
 obtain ⟨N, hN⟩ : ∃ N, N = P.orders.length := ⟨_, rfl⟩
 rw [← hN] at hn6 hc1
 have HN := Lib.hid hN; clear hN
 obtain ⟨wk, rfl⟩ : ∃ wk : World, wk = w1 := ⟨_, rfl⟩
 go_wp2
 go_loopw [6, 15] (fun ov iv wr => ∃ (k : Nat) (v4 : Value), v4 = ov ∧ iv = .int .i64 k ∧ k ≤ N ∧ Ext wk wr ∧ OwnV wk.heap.size 3 wr v4 (idxV (frT U k))) (fun _ iv _ => N - (intOf iv).toNat)
 case atStart => exact ⟨0, _, rfl, rfl, by omega, Ext.refl _, World.ownsRow_nil _ _ _ _⟩
 case round =>
  obtain ⟨k, v4, rfl, rfl, hk, hg, hO⟩ := hrel
  by_cases hlt : k < N
  ·have hlt' : (k : Int) < N := by omega
   have hfl := frT_len U k
   have hvl : (idxV (frT U k)).length ≤ 1000000 := by unfold idxV; rw [List.length_map]; omega
   by_cases hm : k ∈ U.map dep
   ·have hst := frT_no hm
    have hd : decide (((k : Nat) : Int) ∈ dv) = true := by rw [HI.out.1]; exact decide_eq_true (dep_mem.2 hm)
    have HS := Lib.hid hst; clear hst hm
    go_wp2_with fail
    refine Calls.mono (containsI_ok dv (k : Int) wr _ Any (HI.out.2 wr hg)) ?_
    rintro e2 w2 ⟨v2, rfl, hg2, rfl⟩
    rw [hd]; clear hd
    have hO2 := World.ownsRow.kept hO hg2 (by cases hv : v4.ownBlock <;> simp)
    have hgn := grown_trans hg hg2
    go_wp2
    go_roundw
    case rel => exact ⟨k + 1, v4, rfl, by go_num, by omega, hgn, by rw [HS.out]; exact hO2⟩
    case measure => simp [intOf]; omega
   ·have hst : idxV (frT U (k + 1)) = idxV (frT U k) ++ [.int .i64 (k : Int)] := by rw [frT_yes hm]; unfold idxV; rw [List.map_append]; rfl
    have hd : decide (((k : Nat) : Int) ∈ dv) = false := by rw [HI.out.1]; exact decide_eq_false (fun h => hm (dep_mem.1 h))
    have HS := Lib.hid hst; clear hst hm
    go_wp2_with fail
    refine Calls.mono (containsI_ok dv (k : Int) wr _ Any (HI.out.2 wr hg)) ?_
    rintro e2 w2 ⟨v2, rfl, hg2, rfl⟩
    rw [hd]; clear hd
    have hO2 := World.ownsRow.kept hO hg2 (by cases hv : v4.ownBlock <;> simp)
    have hgn := grown_trans hg hg2
    go_wp2_with (first | (at_builtin; refine wp_app_val 213 3 (.int .i64 0) 8 und_intsG Tryz.infoIntG rfl (by decide) rfl _ _ rfl wk.heap.size v4 _ (idxV (frT U k)) rfl w2 hO2 rfl rfl rfl hvl hgn.size ?_; intro v5 w5 hO5 hg5) | fail)
    have hg6 : Ext wk w5 := grown_own hgn hg5 (fun j hj hlt => by have := (hO2.lt j hj).1; omega)
    go_roundw
    case rel => exact ⟨k + 1, v5, rfl, by go_num, by omega, hg6, by rw [HS.out]; exact hO5⟩
    case measure => simp [intOf]; omega
  ·have hke : k = N := by omega
   subst hke
   have he : frT U k = frI P U := by unfold frT frI; rw [HN.out]
   have hfl := frT_len U k
   have hsh : ∃ az capz, v4 = .slice az (frT U k).length capz := by
    rcases hO.form with ⟨h1, h2⟩ | ⟨g, cp, h1, _⟩
    ·have h3 : (frT U k).length = 0 := by unfold idxV at h2; rw [List.map_eq_nil_iff] at h2; rw [h2]; rfl
     exact ⟨none, 0, by rw [h1, h3]⟩
    ·exact ⟨_, _, by rw [h1]; unfold idxV; rw [List.length_map]⟩
   obtain ⟨az, capz, rfl⟩ := hsh
   have hgw := grown_trans hg1 hg
   have hfin : OwnV w.heap.size 3 wr (.slice az (frT U k).length capz) (idxV (frI P U)) := by rw [← he]; exact hO.weak hg1.size
   have HF := Lib.hid hfin; clear hfin he hO
   go_wp2
   go_ret
   exact ⟨_, rfl, hgw, HF.out⟩
end Go.Proofs.YtmjkoejegfjbbaaGreat
namespace Go.Proofs.YtmjkoejegfjbbaaGreat
open Go.RowKit
def insR (P : Pr) : List Nat → Nat → List Int → List Int
 | [], _, out => out
 | i :: r, t, out => insR P r (t / ordN' P i) (out.set i ((t % ordN' P i : Nat) : Int))
theorem insR_set (P : Pr) (j : Nat) (x : Int) : ∀ (r : List Nat) (t : Nat) (out : List Int), ¬ j ∈ r → insR P r t (out.set j x) = (insR P r t out).set j x
 | [], _, _, _ => rfl
 | i :: r, t, out, h => by
  have hj : j ≠ i := fun e => h (by rw [e]; exact List.mem_cons_self ..)
  show insR P r (t / ordN' P i) ((out.set j x).set i _) = (insR P r (t / ordN' P i) (out.set i _)).set j x
  rw [List.set_comm _ _ hj, insR_set P j x r _ _ (fun e => h (List.mem_cons_of_mem _ e))]
theorem insR_eq (P : Pr) : ∀ (r : List Nat) (t : Nat), r.Nodup → insR P r t (zeros P.orders.length) = elR P r t
 | [], _, _ => rfl
 | i :: r, t, h => by
  obtain ⟨h1, h2⟩ := List.nodup_cons.1 h
  show insR P r (t / ordN' P i) ((zeros P.orders.length).set i _) = (elR P r (t / ordN' P i)).set i _
  rw [insR_set P i _ r _ _ h1, insR_eq P r _ h2]
theorem frI_nodup (P : Pr) (U : List (List Int)) : (frI P U).Nodup := List.Pairwise.filter _ List.nodup_range
theorem frI_len (P : Pr) (U : List (List Int)) : (frI P U).length ≤ P.orders.length := by
 unfold frI
 exact Nat.le_trans (List.length_filter_le _ _) (by rw [List.length_range]; exact Nat.le_refl _)
theorem take_rev {l : List Nat} {k : Nat} (h : k < l.length) : (l.take (k + 1)).reverse = gt l k :: (l.take k).reverse := by
 rw [take_succ_gt l k h, List.reverse_append]; rfl
theorem insR_step (P : Pr) {l : List Nat} {k : Nat} (h : k < l.length) (t : Nat) (out : List Int) : insR P (l.take (k + 1)).reverse t out = insR P (l.take k).reverse (t / ordN' P (gt l k)) (out.set (gt l k) ((t % ordN' P (gt l k) : Nat) : Int)) := by
 rw [take_rev h]; rfl
theorem tab_free {P : Pr} {U : List (List Int)} (hU : SeqOk P U) {d : Nat} (hd : d < P.orders.length) : (gt (tabTo U P.orders.length U.length) d).length = 0 ↔ ¬ d ∈ U.map dep := by
 rcases tabTo_at P U U.length (Nat.le_refl _) d hd with ⟨h, h2⟩ | ⟨j, hj, hjd, he⟩
 ·rw [h]
  refine ⟨fun _ hm => ?_, fun _ => rfl⟩
  obtain ⟨z, hz, e⟩ := List.mem_map.1 hm
  obtain ⟨j, hj, rfl⟩ := mem_gt hz
  exact h2 j hj e
 ·rw [he]
  refine ⟨fun h0 => ?_, fun hn => absurd (List.mem_map.2 ⟨_, gtMem hj, hjd⟩) hn⟩
  have hv := (hU.1 _ (gtMem hj)).1.1
  omega
section
variable {P : Pr} (G : Grp P)
include G
end
end Go.Proofs.YtmjkoejegfjbbaaGreat
namespace Go.Proofs.YtmjkoejegfjbbaaGreat
open Go.RowKit
theorem own_lit0 {B H : Nat} {w : World} (hB : B ≤ w.heap.size) (hH : w.heap.size = H) : Own B (w.alloc (.cells #[] 2)) (.slice (some ⟨H, 0, none⟩) 0 0) [] := by
 subst hH; exact World.ownsRow_lit w #[] 0 hB (by decide) rfl
end Go.Proofs.YtmjkoejegfjbbaaGreat
namespace Go.Proofs.YtmjkoejegfjbbaaGreat
open Go.RowKit
set_option maxRecDepth 100000 in
set_option maxHeartbeats 2000000 in
theorem l14Free_ok (P : Pr) (G : Grp P) (w : World) (pv uv : Value) (U : List (List Int)) (Sp Su : Nat → Prop) (hpv : PresV Sp w pv P) (hu : Rows2 Su w uv U) (hU : SubB P U) :
  Calls Tryz.prog 318 #[pv, uv] w (Ret w fun w' v => Own w.heap.size w' v (natI (frI P U))) := by
 have hP := G.v
 have hn6 := hP.n6
 obtain ⟨h1, _, _⟩ := G.seq_facts (G.subB hU)
 rw [← hU.2] at h1
 have hul := G.sub_len hU
 have hfr := fun d (hd : d < P.orders.length) => tab_free h1 hd
 have hTl := tabTo_len U P.orders.length U.length
 obtain ⟨vo, vp, vc, rfl, h3⟩ := hpv
 have hp0 := PresP.box h3 39
 have hg0 : Ext w (w.alloc (.cells #[vo, vp, vc] 39)) := World.grownBy_alloc _ _ _
 have hu0 := Rows2.ext hu hg0
 obtain ⟨au, capu, rfl, _, _⟩ := Sl.shape hu
 obtain ⟨vo6, vp6, vc6, _, _, hc0, hc1, hc2, h36⟩ := hp0.at
 simp only [Nat.zero_add] at hc1 hc2
 have hcon := l12Table_ok P hP (w.alloc (.cells #[vo, vp, vc] 39)) (.agg #[vo6, vp6, vc6]) _ U Any Su ⟨_, _, _, rfl, h36⟩ hu0 h1 (by omega)
 obtain ⟨T, hT⟩ : ∃ T, T = tabTo U P.orders.length U.length := ⟨_, rfl⟩
 obtain ⟨N, hN⟩ : ∃ N, N = P.orders.length := ⟨_, rfl⟩
 rw [← hT] at hcon hfr hTl
 rw [← hN] at hfr hTl hn6
 have HF := Lib.hid (And.intro hfr (And.intro hTl hN)); clear hfr hTl hT hN hp0 hu h1 hul
 go_enter Tryz.func318, Tryz.ntmps318
 go_wp2_with fail
 clear hc0 hc1 hc2
 generalize hw0 : w.alloc (.cells #[vo, vp, vc] 39) = w0 at *
 clear hw0
 refine Calls.mono hcon ?_
 rintro e1 w1 ⟨tv, rfl, hg1, hTr⟩
 clear hcon
 obtain ⟨ta, tc, hte, _, _⟩ := Sl.shape hTr
 rw [HF.out.2.1] at hte
 subst hte
 have HT := Lib.hid hTr; clear hTr
 go_wp2
 go_loopw [6, 7] (fun ov dv wr => ∃ (d : Nat) (ow : Value), ow = ov ∧ dv = .int .i64 (d : Int) ∧ d ≤ N ∧ Ext w1 wr ∧ Own w1.heap.size wr ow (natI (frT U d))) (fun _ dv _ => N - (intOf dv).toNat)
 case atStart => exact ⟨0, _, rfl, rfl, by omega, World.grownBy_alloc _ _ _, own_lit0 (Nat.le_refl _) rfl⟩
 case round =>
  obtain ⟨d, ow, rfl, rfl, hd, hg, hO⟩ := hrel
  by_cases hlt : d < N
  ·have hlt' : (d : Int) < N := by omega
   obtain ⟨bb, off, a2, cap2, hab, _, _, hc, _⟩ := Rows2.at (Rows2.ext HT.out hg) d (by rw [HF.out.2.1]; exact hlt)
   subst hab
   have hfd := HF.out.1 d hlt
   have hlen := frT_len U d
   obtain ⟨L, hL⟩ : ∃ L, L = (gt T d).length := ⟨_, rfl⟩
   rw [← hL] at hc hfd
   clear hL
   by_cases hm : d ∈ U.map dep
   ·have hne : (L : Int) ≠ 0 := by
     have : L ≠ 0 := fun e => (hfd.1 e) hm
     omega
    have hst := frT_no hm
    have HS := Lib.hid hst; clear hst hfd hm hlen
    have hb : ((L : Int) == 0) = false := by simpa using hne
    clear hne
    go_wp2
    go_roundw
    case rel => exact ⟨d + 1, _, rfl, by go_num, by omega, hg, by rw [HS.out]; exact hO⟩
    case measure => simp [intOf]; omega
   ·obtain rfl : L = 0 := hfd.2 hm
    have hst : natI (frT U (d + 1)) = natI (frT U d) ++ [(d : Int)] := by rw [frT_yes hm]; unfold natI; rw [List.map_append]; rfl
    have hll : (natI (frT U d)).length ≤ 1000000 := by rw [natI_len]; omega
    have HS := Lib.hid (And.intro hst hll); clear hst hll hfd hm hlen
    go_wp2_with (at_builtin; go_must (refine wp_app_int rfl _ _ rfl w1.heap.size _ (natI (frT U d)) (d : Int) rfl wr hO rfl rfl HS.out.2 hg.size ?_); intro v5 w5 hO5 hg5)
    have hgx : Ext w1 w5 := grown_own hg hg5 (fun j hj hlt => by have := (hO.lt j hj).1; omega)
    rw [← HS.out.1] at hO5
    go_roundw
    case rel => exact ⟨d + 1, _, rfl, by go_num, by omega, hgx, hO5⟩
    case measure => simp [intOf]; omega
  ·have hde : d = N := by omega
   have hfin : Own w1.heap.size wr ow (natI (frI P U)) := by
    have e : frI P U = frT U d := by rw [hde, HF.out.2.2]; rfl
    rw [e]; exact hO
   have hgw := grown_trans hg0 (grown_trans hg1 hg)
   have hwz := (grown_trans hg0 hg1).size
   have HX := Lib.hid (hfin.weak hwz); clear hfin hO
   go_wp2
   go_ret
   exact ⟨_, rfl, hgw, HX.out⟩
set_option maxRecDepth 100000 in
set_option maxHeartbeats 2000000 in
theorem l14Index_ok (P : Pr) (G : Grp P) (w : World) (pv uv : Value) (U : List (List Int)) (Sp Su : Nat → Prop) (hpv : PresV Sp w pv P) (hu : Rows2 Su w uv U) (hU : SubB P U) :
  Calls Tryz.prog 209 #[pv, uv] w (Ret w fun _ v => v = .int .i64 ((szR P (frI P U).reverse : Nat) : Int)) := by
 have hP := G.v
 have h729 : ordP P ≤ 729 := hP.le729
 have hop := hP.ordP_pos
 obtain ⟨h1, _, _⟩ := G.seq_facts (G.subB hU)
 rw [← hU.2] at h1
 have hul := G.sub_len hU
 have hn6 := hP.n6
 have hb := prodU_729 hP h1 U.length (Nat.le_refl _)
 have hE := idx_div G hU
 obtain ⟨vo, vp, vc, rfl, h3⟩ := hpv
 have hp0 := PresP.box h3 39
 have hg0 : Ext w (w.alloc (.cells #[vo, vp, vc] 39)) := World.grownBy_alloc _ _ _
 have hu0 := Rows2.ext hu hg0
 obtain ⟨au, capu, rfl, _, _⟩ := Sl.shape hu
 obtain ⟨vo6, vp6, vc6, _, _, hc0, hc1, hc2, h36⟩ := hp0.at
 simp only [Nat.zero_add] at hc1 hc2
 have hor : ∀ w', Ext (w.alloc (.cells #[vo, vp, vc] 39)) w' → Calls Tryz.prog 145 #[.agg #[vo6, vp6, vc6]] w' (Ret w' fun _ v => v = .int .i64 (ordP P)) := fun w' h => l10Order_ok w' _ P Any hP ⟨_, _, _, rfl, Pres3.ext h36 h⟩
 have hsz : ∀ w', Ext (w.alloc (.cells #[vo, vp, vc] 39)) w' → Calls Tryz.prog 329 #[.agg #[vo6, vp6, vc6], .slice au U.length capu] w' (Ret w' fun _ v => v = .int .i64 (prodU P U U.length)) := fun w' h => l12Order_ok P hP w' _ _ U Any Su ⟨_, _, _, rfl, Pres3.ext h36 h⟩ (Rows2.ext hu0 h) h1 (by omega)
 obtain ⟨x, hx⟩ : ∃ x, x = ordP P := ⟨_, rfl⟩
 obtain ⟨y, hy⟩ : ∃ y, y = prodU P U U.length := ⟨_, rfl⟩
 rw [← hx] at h729 hop hE hor
 rw [← hy] at hb hE hsz
 have hyz : (y == 0) = false := by simp; omega
 have hyn : ¬ y = 0 := by omega
 have e2 : x.tdiv y = x / y := Int.tdiv_eq_ediv_of_nonneg (by omega)
 have hq0 : 0 ≤ x / y := Int.ediv_nonneg (by omega) (by omega)
 have hq1 : x / y ≤ x := Int.ediv_le_self _ (by omega)
 have e3 : IntKind.i64.wrap (x / y) = x / y := IntWalk.i64_in _ (by omega)
 have HX := Lib.hid (And.intro hE (And.intro hor hsz)); clear hx hy hE hor hsz hp0 hu h1 hul hn6
 go_enter Tryz.func209, Tryz.ntmps209
 go_wp2
 generalize hw0 : w.alloc (.cells #[vo, vp, vc] 39) = w0 at *
 clear hw0
 have f1 : ∀ w', Ext w0 w' → w'.cell? ⟨w.heap.size, 0, none⟩ = some vo6 := fun w' h => h.cell hc0 (by simp)
 have f2 : ∀ w', Ext w0 w' → w'.cell? ⟨w.heap.size, 1, none⟩ = some vp6 := fun w' h => h.cell hc1 (by simp)
 have f3 : ∀ w', Ext w0 w' → w'.cell? ⟨w.heap.size, 2, none⟩ = some vc6 := fun w' h => h.cell hc2 (by simp)
 clear hc0 hc1 hc2
 go_region_held3 (fun w' => Ext w0 w') (first | exact grown_drew _ _ | assumption)
  (first
   | (go_at_call 329; refine Calls.mono (Calls.rel (w0 := w0) (by assumption) (HX.out.2.2 _ (by assumption))) ?_; rintro eB wB ⟨vB, rfl, hgB, _, rfl⟩)
   | (go_at_call 145; refine Calls.mono (Calls.rel (w0 := w0) (by assumption) (HX.out.2.1 _ (by assumption))) ?_; rintro eA wA ⟨vA, rfl, hgA, _, rfl⟩))
 clear f1 f2 f3
 go_wp2
 go_ret
 exact ⟨_, rfl, grown_trans hg0 hgB, by rw [HX.out.1]; rfl⟩
theorem i64q {q : Nat} (h : q ≤ 1000000) : IntKind.i64.wrap (q : Int) = (q : Int) := IntWalk.i64_in _ (by omega)
theorem ordN_o {P : Pr} (G : Grp P) {i : Nat} (hi : i < P.orders.length) : gt P.orders i = ((ordN' P i : Nat) : Int) ∧ 2 ≤ ordN' P i ∧ ordN' P i ≤ 7 := by
 have h7 := G.v.ord7 i hi
 unfold ordN'
 omega
set_option maxRecDepth 100000 in
set_option maxHeartbeats 4000000 in
theorem l14Element_ok (P : Pr) (G : Grp P) (w : World) (pv uv : Value) (U : List (List Int)) (t0 : Nat) (Sp Su : Nat → Prop) (hpv : PresV Sp w pv P) (hu : Rows2 Su w uv U) (hU : SubB P U) (ht : t0 ≤ 1000000) :
  Calls Tryz.prog 212 #[pv, uv, .int .i64 (t0 : Int)] w (Ret w fun w' v => Own w.heap.size w' v (elR P (frI P U).reverse t0)) := by
 have hP := G.v
 have hn6 := hP.n6
 have hfl := frI_len P U
 have hfm : ∀ k, k < (frI P U).length → gt (frI P U) k < P.orders.length := fun k hk => (frI_mem.1 (gtMem hk)).1
 have hfin : insR P (frI P U).reverse t0 (zeros P.orders.length) = elR P (frI P U).reverse t0 := insR_eq P _ t0 ((List.reverse_perm _).nodup_iff.2 (frI_nodup P U))
 obtain ⟨vo, vp, vc, rfl, h3⟩ := hpv
 have hp0 := PresP.box h3 39
 have hg0 : Ext w (w.alloc (.cells #[vo, vp, vc] 39)) := World.grownBy_alloc _ _ _
 have hu0 := Rows2.ext hu hg0
 obtain ⟨au, capu, rfl, _, _⟩ := Sl.shape hu
 obtain ⟨vo6, vp6, vc6, _, _, hc0, hc1, hc2, h36⟩ := hp0.at
 simp only [Nat.zero_add] at hc1 hc2
 obtain ⟨F, hF⟩ : ∃ F, F = frI P U := ⟨_, rfl⟩
 obtain ⟨E, hEE⟩ : ∃ E, E = elR P (frI P U).reverse t0 := ⟨_, rfl⟩
 have hbx : ∀ w', Ext (w.alloc (.cells #[vo, vp, vc] 39)) w' → w'.cell? ⟨w.heap.size, 0, none⟩ = some vo6 ∧ w'.cell? ⟨w.heap.size, 1, none⟩ = some vp6 ∧ w'.cell? ⟨w.heap.size, 2, none⟩ = some vc6 := fun w' h => ⟨h.cell hc0 (by simp), h.cell hc1 (by simp), h.cell hc2 (by simp)⟩
 have hon := l10One_ok P hP (w.alloc (.cells #[vo, vp, vc] 39)) (.agg #[vo6, vp6, vc6]) Any ⟨_, _, _, rfl, h36⟩
 have hfe : ∀ w', Ext (w.alloc (.cells #[vo, vp, vc] 39)) w' → Calls Tryz.prog 318 #[.agg #[vo6, vp6, vc6], .slice au U.length capu] w' (Ret w' fun w'' v => Own w'.heap.size w'' v (natI F)) := fun w' h => by
  rw [hF]; exact l14Free_ok P G w' _ _ U Any Su ⟨_, _, _, rfl, Pres3.ext h36 h⟩ (Rows2.ext hu0 h) hU
 rw [← hEE] at hfin ⊢
 rw [← hF] at hfl hfm hfin
 obtain ⟨ao, co, hvo, _, _⟩ := h36.o.shape
 subst hvo
 have hord := h36.o
 have hlz : (zeros P.orders.length).length = P.orders.length := by simp [zeros]
 have HB := Lib.hid (And.intro hbx (And.intro hfin (And.intro hfm (And.intro hord (And.intro hlz hfe))))); clear hbx hfin hfm hp0 hu hF hEE hord h36 hlz hfe
 go_enter Tryz.func212, Tryz.ntmps212
 go_wp2_with fail
 clear hc0 hc1 hc2
 generalize hw0 : w.alloc (.cells #[vo, vp, vc] 39) = w0 at *
 clear hw0
 refine Calls.mono hon ?_
 rintro e1 w1 ⟨ov, rfl, hg1, hO1⟩
 clear hon
 obtain ⟨b0_, b1_, b2_⟩ := HB.out.1 w1 hg1
 go_wp2_with fail
 clear b0_ b1_ b2_
 refine Calls.mono (HB.out.2.2.2.2.2 w1 hg1) ?_
 rintro e2 w2 ⟨fv, rfl, hg2, hF2⟩
 have hO2 := hO1.ext0 hg2
 have hFi : Ints (fun k => w1.heap.size ≤ k) w2 fv (natI F) := ints_of_own hF2 (by rw [natI_len]; omega) (fun k hk => (hF2.lt k hk).1)
 obtain ⟨fa, fc, hfe, _, _⟩ := hFi.shape
 rw [natI_len] at hfe
 subst hfe
 have hz1 := hg1.size
 have hfx : ∀ w', World.grownBy w2 w' ov.ownBlock → Ints (fun k => w1.heap.size ≤ k) w' (.slice fa F.length fc) (natI F) := fun w' h =>
  Ints.mono hFi (frame_of h (fun k hk hlt => ⟨hk, fun e => by have := (hO1.lt k e).2; have hk : w1.heap.size ≤ k := hk; omega⟩))
 have hg02 := grown_trans hg1 hg2
 have hgl := hO1.lt
 clear hF2 hFi
 have HFX := Lib.hid (And.intro hfx hgl); clear hfx hgl
 have hXl0 : P.orders.length ≤ (zeros P.orders.length).length ∧ (zeros P.orders.length).length ≤ P.orders.length := by rw [HB.out.2.2.2.2.1]; exact ⟨Nat.le_refl _, Nat.le_refl _⟩
 go_wp2
 go_loopw [2, 9] (fun tv iv wr => ∃ (k t : Nat) (X : List Int), tv = .int .i64 (t : Int) ∧ iv = .int .i64 ((k : Int) - 1) ∧ k ≤ F.length ∧ t ≤ 1000000 ∧ Ext w0 wr ∧ World.grownBy w2 wr ov.ownBlock ∧ Own w0.heap.size wr ov X ∧ P.orders.length ≤ X.length ∧ X.length ≤ P.orders.length ∧ Hid (insR P (F.take k).reverse t X = E)) (fun _ iv _ => (intOf iv + 1).toNat)
 case atStart => exact ⟨F.length, t0, _, rfl, rfl, Nat.le_refl _, ht, hg02, by cases hb : ov.ownBlock <;> exact grown_refl _ _, hO2, hXl0.1, hXl0.2, Lib.hid (by rw [List.take_length]; exact HB.out.2.1)⟩
 case round =>
  obtain ⟨k, t, X, rfl, rfl, hk, ht', hg, hgO, hO, hX1, hX2, hX⟩ := hrel
  by_cases hlt : 0 < k
  ·obtain ⟨j, rfl⟩ : ∃ j, k = j + 1 := ⟨k - 1, by omega⟩
   have hjF : j < F.length := by omega
   have hd := HB.out.2.2.1 j hjF
   obtain ⟨hoe, ho2, ho7⟩ := ordN_o G hd
   have hst := insR_step P hjF t X
   rw [hX.out] at hst
   obtain ⟨fb, fo, hab, hSf, hfb, hcf⟩ := Ints.at (HFX.out.1 wr hgO) j (by rw [natI_len]; exact hjF)
   have hgf : gt (natI F) j = ((gt F j : Nat) : Int) := gt_map _ _ _ hjF
   rw [hgf] at hcf
   obtain ⟨ob, oo, hab2, _, hob, hco0⟩ := Ints.at HB.out.2.2.2.1 (gt F j) hd
   rw [hoe] at hco0
   obtain ⟨d, hde⟩ : ∃ d, d = gt F j := ⟨_, rfl⟩
   rw [← hde] at hcf hco0 hd hst ho2 ho7
   obtain ⟨o, hoE⟩ : ∃ o, o = ordN' P d := ⟨_, rfl⟩
   rw [← hoE] at hco0 hst ho2 ho7
   obtain ⟨g, cap, rfl, hbl, hsl⟩ := hO.form (by omega)
   have hgl := (HFX.out.2 g rfl).2
   cases hab
   cases hab2
   clear hde hoE hoe hgf
   obtain ⟨hO3, hg3⟩ := hO.store d ((t : Int) % (o : Int))
   have hgn : Ext w0 (wr.setCell ⟨g, d, none⟩ (.int .i64 ((t : Int) % (o : Int)))) := grown_own hg hg3 (fun j hj hlt => by have := Option.some.inj hj; omega)
   have hgOn : World.grownBy w2 (wr.setCell ⟨g, d, none⟩ (.int .i64 ((t : Int) % (o : Int)))) (some g) := grown_trans hgO hg3
   have hfg : w1.heap.size ≤ fb := hSf
   have c1 : wr.drew.cell? ⟨g, d, none⟩ = some (.int .i64 (gt X d)) := hO.cell d (by omega)
   have f1 : wr.drew.frozen? ⟨g, d, none⟩ = false := hO.frozen d
   have c2 : wr.drew.cell? ⟨ob, oo + d, none⟩ = some (.int .i64 (o : Int)) := hg.cell hco0 (by simp)
   have c3 : wr.drew.cell? ⟨fb, fo + j, none⟩ = some (.int .i64 (d : Int)) := hcf
   have c4 : wr.drew.cell? ⟨w.heap.size, 0, none⟩ = some (.slice (some ⟨ob, oo, none⟩) P.orders.length co) := (HB.out.1 wr hg).1
   have c5 : (wr.setCell ⟨g, d, none⟩ (.int .i64 ((t : Int) % (o : Int)))).cell? ⟨ob, oo + d, none⟩ = some (.int .i64 (o : Int)) := hgn.cell hco0 (by simp)
   have c6 : (wr.setCell ⟨g, d, none⟩ (.int .i64 ((t : Int) % (o : Int)))).cell? ⟨fb, fo + j, none⟩ = some (.int .i64 (d : Int)) := hg3.cell hcf (by simp; omega)
   have c7 : (wr.setCell ⟨g, d, none⟩ (.int .i64 ((t : Int) % (o : Int)))).cell? ⟨w.heap.size, 0, none⟩ = some (.slice (some ⟨ob, oo, none⟩) P.orders.length co) := (HB.out.1 _ hgn).1
   have hm : (t : Int) % (o : Int) = ((t % o : Nat) : Int) := rfl
   have hq : (t : Int) / (o : Int) = ((t / o : Nat) : Int) := rfl
   have htq : t / o ≤ 1000000 := Nat.le_trans (Nat.div_le_self _ _) ht'
   have e1 : (t : Int).tmod (o : Int) = (t : Int) % (o : Int) := Int.tmod_eq_emod_of_nonneg (by omega)
   have e2 : (t : Int).tdiv (o : Int) = (t : Int) / (o : Int) := Int.tdiv_eq_ediv_of_nonneg (by omega)
   have e3 : IntKind.i64.wrap ((t : Int) / (o : Int)) = (t : Int) / (o : Int) := by rw [hq]; exact i64q htq
   have e4 : IntKind.i64.wrap ((t : Int) % (o : Int)) = (t : Int) % (o : Int) := by rw [hm]; exact i64q (Nat.le_trans (Nat.le_of_lt (Nat.mod_lt t (show 0 < o by omega))) (by omega))
   have HE := Lib.hid (And.intro e1 (And.intro e2 (And.intro e3 e4)))
   have HS := Lib.hid (And.intro hst (And.intro hO3 (And.intro hgOn (And.intro hgn (And.intro hm (And.intro hq htq)))))); clear hst hO3 hgOn hgn hm hq htq hg3 hO hgO e1 e2 e3 e4 hcf hco0
   have hj1 : ((j + 1 : Nat) : Int) - 1 = (j : Int) := by omega
   rw [hj1]
   clear hj1
   have hjl : (j : Int) < F.length := by omega
   have hon : ((o : Int) == 0) = false := by simp; omega
   have hon1 : ¬ (o : Int) = 0 := by omega
   have hon2 : ¬ o = 0 := by omega
   have hdX : d < X.length := by omega
   go_wp2
   obtain ⟨e1, e2, e3, e4⟩ := HE.out
   go_still_tail 16, (by kernel_rfl)
   change wpList _ _ _ _ _ wr.drew
   clear e1 e2 e3 e4 c2 c3 c4
   go_wp2
   clear c1 f1
   generalize wr.setCell ⟨g, d, none⟩ (.int .i64 ((t : Int) % (o : Int))) = wx at *
   obtain ⟨e1, e2, e3, e4⟩ := HE.out
   go_quiet (fail)
   clear e1 e2 e3 e4 c5 c6 c7
   rename_i nq _
   have hgf : Ext w0 (wx.drewN (1 + nq)) := grown_trans HS.out.2.2.2.1 (grown_drewN _ _ _)
   go_wp2
   go_roundw
   case rel => exact ⟨j, t / o, X.set d (((t % o : Nat) : Int)), by rw [← HS.out.2.2.2.2.2.1], by go_num, by omega, HS.out.2.2.2.2.2.2, hgf, grown_trans HS.out.2.2.1 (grown_drewN _ _ _), HS.out.2.1, by rw [List.length_set]; omega, by rw [List.length_set]; omega, Lib.hid HS.out.1.symm⟩
   case measure => simp [intOf]
  ·have hk0 : k = 0 := by omega
   subst hk0
   have hfin : X = E := by rw [← hX.out]; rfl
   subst hfin
   have hgw := grown_trans hg0 hg
   have hwz := hg0.size
   have HE := Lib.hid (hO.weak hwz); clear hO hX
   go_wp2
   go_ret
   exact ⟨_, rfl, hgw, HE.out⟩
end Go.Proofs.YtmjkoejegfjbbaaGreat
