/-
  Plain: the reference's count of fixed cosets is the program's.
-/
import Derived.Test.YtdklekdpdbjfiaaGreatUFixW2
import Derived.Test.YtdklekdpdbjfiaaGreatM9
import Derived.Test.YtdklekdpdbjfiaaGreatM5
import Derived.Test.YtdklekdpdbjfiaaGreatM7
namespace Go.Proofs.YtdklekdpdbjfiaaGreat
open Go.RowKit
def insR (P : Pr) : List Nat → Nat → List Int → List Int
 | [], _, out => out
 | i :: r, t, out => insR P r (t / ordN' P i) (out.set i ((t % ordN' P i : Nat) : Int))
theorem insR_set (P : Pr) (j : Nat) (x : Int) : ∀ (r : List Nat) (t : Nat) (out : List Int), ¬ j ∈ r → insR P r t (out.set j x) = (insR P r t out).set j x
 | [], _, _, _ => rfl
 | i :: r, t, out, h => by
  have hj : j ≠ i := fun e => h (by rw [e]; exact List.mem_cons_self ..)
  show insR P r (t / ordN' P i) ((out.set j x).set i _) = (insR P r (t / ordN' P i) (out.set i _)).set j x
  rw [List.set_comm _ _ hj, insR_set P j x r _ _ (fun e => h (List.mem_cons_of_mem _ e))]
theorem insR_eq (P : Pr) : ∀ (r : List Nat) (t : Nat), r.Nodup → insR P r t (zeros P.orders.length) = elR P r t
 | [], _, _ => rfl
 | i :: r, t, h => by
  obtain ⟨h1, h2⟩ := List.nodup_cons.1 h
  show insR P r (t / ordN' P i) ((zeros P.orders.length).set i _) = (elR P r (t / ordN' P i)).set i _
  rw [insR_set P i _ r _ _ h1, insR_eq P r _ h2]
theorem frI_nodup (P : Pr) (U : List (List Int)) : (frI P U).Nodup := List.Pairwise.filter _ List.nodup_range
theorem frI_len (P : Pr) (U : List (List Int)) : (frI P U).length ≤ P.orders.length := by
 unfold frI
 exact Nat.le_trans (List.length_filter_le _ _) (by rw [List.length_range]; exact Nat.le_refl _)
theorem take_rev {l : List Nat} {k : Nat} (h : k < l.length) : (l.take (k + 1)).reverse = gt l k :: (l.take k).reverse := by
 rw [take_succ_gt l k h, List.reverse_append]; rfl
theorem insR_step (P : Pr) {l : List Nat} {k : Nat} (h : k < l.length) (t : Nat) (out : List Int) : insR P (l.take (k + 1)).reverse t out = insR P (l.take k).reverse (t / ordN' P (gt l k)) (out.set (gt l k) ((t % ordN' P (gt l k) : Nat) : Int)) := by
 rw [take_rev h]; rfl
theorem tab_free {P : Pr} {U : List (List Int)} (hU : SeqOk P U) {d : Nat} (hd : d < P.orders.length) : (gt (tabTo U P.orders.length U.length) d).length = 0 ↔ ¬ d ∈ U.map dep := by
 rcases tabTo_at P U U.length (Nat.le_refl _) d hd with ⟨h, h2⟩ | ⟨j, hj, hjd, he⟩
 ·rw [h]
  refine ⟨fun _ hm => ?_, fun _ => rfl⟩
  obtain ⟨z, hz, e⟩ := List.mem_map.1 hm
  obtain ⟨j, hj, rfl⟩ := mem_gt hz
  exact h2 j hj e
 ·rw [he]
  refine ⟨fun h0 => ?_, fun hn => absurd (List.mem_map.2 ⟨_, gtMem hj, hjd⟩) hn⟩
  have hv := (hU.1 _ (gtMem hj)).1.1
  omega
section
variable {P : Pr} (G : Grp P)
include G
theorem Grp.conj_within {U V : List (List Int)} (hU : SubB P U) (hV : SubB P V) {x : List Int} (hx : Vec P.orders x) : (∀ z ∈ cseq P (genP P (fun z => z ∈ conjL P V x)), gP P U z) ↔ ∀ y ∈ V, gP P U (rConj P y x) := by
 have S := G.subB hU
 have hc : ∀ z ∈ conjL P V x, Vec P.orders z := fun z hz => by
  unfold conjL at hz
  obtain ⟨y, hy, rfl⟩ := List.mem_map.1 hz
  exact G.conjV (hV.1 y hy) hx
 have R : Sub P (genP P (fun z => z ∈ conjL P V x)) := G.genP_sub hc
 constructor
 ·intro h y hy
  have h1 : genP P (fun z => z ∈ cseq P (genP P (fun z => z ∈ conjL P V x))) (rConj P y x) := by
   rw [G.genP_cseq R]
   exact fun A hA hz => hz _ (by unfold conjL; exact List.mem_map.2 ⟨y, hy, rfl⟩)
  exact h1 _ S h
 ·intro h z hz
  refine (G.seq_facts R).2.1 z hz _ S (fun t ht => ?_)
  unfold conjL at ht
  obtain ⟨y, hy, rfl⟩ := List.mem_map.1 ht
  exact h y hy
open Classical in
noncomputable def fixTo (P : Pr) (U V : List (List Int)) (k : Nat) : Nat := ((List.range k).filter (fun t => decide (∀ y ∈ V, gP P U (rConj P y (elR P (frI P U).reverse t))))).length
omit G in
open Classical in
theorem fixTo_yes {U V : List (List Int)} {k : Nat} (h : ∀ y ∈ V, gP P U (rConj P y (elR P (frI P U).reverse k))) : fixTo P U V (k + 1) = fixTo P U V k + 1 := by
 unfold fixTo
 rw [List.range_succ, List.filter_append, List.filter_cons_of_pos (by simpa using h), List.length_append]; rfl
omit G in
open Classical in
theorem fixTo_no {U V : List (List Int)} {k : Nat} (h : ¬ ∀ y ∈ V, gP P U (rConj P y (elR P (frI P U).reverse k))) : fixTo P U V (k + 1) = fixTo P U V k := by
 unfold fixTo
 rw [List.range_succ, List.filter_append, List.filter_cons_of_neg (by simpa using h), List.length_append]; rfl
omit G in
open Classical in
theorem fixTo_all (U V : List (List Int)) : fixTo P U V (szR P (frI P U).reverse) = fixN P U V := by
 have e := trT_eq P (frI P U).reverse
 rw [List.reverse_reverse] at e
 unfold fixTo fixN
 rw [e, List.filter_map, List.length_map]
 rfl
omit G in
open Classical in
theorem fixTo_le (U V : List (List Int)) (k : Nat) : fixTo P U V k ≤ k := by
 unfold fixTo
 exact Nat.le_trans (List.length_filter_le _ _) (by rw [List.length_range]; exact Nat.le_refl _)
theorem Grp.idx_le {U : List (List Int)} (hU : SubB P U) : ((szR P (frI P U).reverse : Nat) : Int) ≤ ordP P := by
 have h := idx_div G hU
 have h2 := G.v.ordP_pos
 rw [← h]
 exact Int.ediv_le_self _ (by omega)
end
end Go.Proofs.YtdklekdpdbjfiaaGreat
