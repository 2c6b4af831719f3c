/-
  The library's sort at [][]int64, laid from the shelf.
  A row that the call has built, sorted by the library: any elements of one cell. (After the library's Sort/OwnSortedInts, at a general reading.)
  impl.elementsOf.
  The reference's coset representatives and membership: spec.l12Reduce, l12Sift, l12Has.
  The reference's membership and order: spec.l01Zero, l12Sift, l12Has, l12Order.
  Plain: the elements of a subgroup as products with exponents (for the reference's list of elements).
  The reference's list of the elements of a subgroup: spec.l12Orders, l10At at orders alone, l12Product, l12Elements.
  The reference's list of the elements of a subgroup: spec.l12Product, l12Elements.
  The reference's list of the elements of a subgroup: spec.l12Elements.
  The reference's test of a sequence: spec.l10Element, l10Elements, l01Same2, l12Is, IsSubgroup, l13Two.
  Small things of the subgroup statements.
  impl.meet, impl.productSize.
  impl.productSize: the size of a product set.
  Plain: the value of IsSylowSystem: subgroups of coprime orders meet in one.
  slices.Grow at rows, laid from the shelf.
  slices.Concat at rows: the rows of all lists, in order.
  IsSylowSystem: the program's side.
  append of a whole list of rows, in a region that draws; l01Own2 hands back a list that is not nil.
  IsSylowSystem: the reference's side.
  Three-fold lists in blocks of their own: a reading that names its blocks.
  laws.FnExactIsSylowSystem: whatever the arguments, the law answers true. (Printed by gen_law.py.)
  The rows' arguments: how a presentation that came in, or a list, reads in this claim's words.
-/
import Derived.Test.YtdklekdpdbjfiaaGreatK6
import Derived.Shelf.SlSortCmp.NoneTotal
import Derived.Sort.OwnSortedInts
import Derived.Test.YtdklekdpdbjfiaaGreatK7
import Derived.Test.YtdklekdpdbjfiaaGreatK8
import Derived.Test.YtdklekdpdbjfiaaGreatK5
import Derived.Test.YtdklekdpdbjfiaaGreatK2
import Derived.Shelf.Spec.SlicesGrow
import Derived.Test.YtdklekdpdbjfiaaGreatK1
import Derived.Carry
import Derived.Deep.Slices
import Derived.ChangeSame
import Derived.ChangeSlices
import Derived.JoinedOf
import Derived.JoinedAt
import Derived.JoinedCond
import Derived.ReadAgain
/- The library's sort at [][]int64, laid from the shelf. -/
namespace Go.Proofs.YtdklekdpdbjfiaaGreat
open Go.Proofs Go.Shelf Go.RowKit Go.Lib Go.Sort
def Tryz.sortRows_ren : Go.Shelf.Ren := ⟨fun | 6 => 216 | 15 => 200 | 14 => 246 | 28 => 240 | 29 => 241 | 20 => 256 | 21 => 257 | 22 => 258 | 23 => 259 | 24 => 260 | 25 => 261 | 26 => 262 | 27 => 263 | 46 => 266 | 47 => 252 | 48 => 253 | 49 => 267 | 50 => 268 | 57 => 269 | n => n, fun | 22 => 23 | 24 => 22 | 25 => 171 | 3 => 3 | 39 => 168 | 0 => 0 | 53 => 198 | 55 => 95 | 4 => 4 | 46 => 191 | 45 => 190 | 50 => 195 | 5 => 5 | 9 => 9 | 66 => 204 | 70 => 208 | 76 => 216 | 77 => 217 | n => n, fun | n => n⟩
theorem Tryz.sortRows : Go.Proofs.SlLaysF.n6 Tryz.prog Tryz.sortRows_ren := {
  mixed := by kernel_rfl
  f6 := ⟨Tryz.f216.name, by decide, Tryz.func216.trans (congrArg some (by kernel_rfl))⟩
  f14 := ⟨Tryz.f246.name, by decide, Tryz.func246.trans (congrArg some (by kernel_rfl))⟩
  f15 := Tryz.func200.trans (congrArg some (by kernel_rfl))
  f20 := ⟨Tryz.f256.name, by decide, Tryz.func256.trans (congrArg some (by kernel_rfl))⟩
  f21 := ⟨Tryz.f257.name, by decide, Tryz.func257.trans (congrArg some (by kernel_rfl))⟩
  f22 := ⟨Tryz.f258.name, by decide, Tryz.func258.trans (congrArg some (by kernel_rfl))⟩
  f23 := ⟨Tryz.f259.name, by decide, Tryz.func259.trans (congrArg some (by kernel_rfl))⟩
  f24 := ⟨Tryz.f260.name, by decide, Tryz.func260.trans (congrArg some (by kernel_rfl))⟩
  f25 := ⟨Tryz.f261.name, by decide, Tryz.func261.trans (congrArg some (by kernel_rfl))⟩
  f26 := ⟨Tryz.f262.name, by decide, Tryz.func262.trans (congrArg some (by kernel_rfl))⟩
  f27 := ⟨Tryz.f263.name, by decide, Tryz.func263.trans (congrArg some (by kernel_rfl))⟩
  f28 := Tryz.func240.trans (congrArg some (by kernel_rfl))
  f29 := Tryz.func241.trans (congrArg some (by kernel_rfl))
  f46 := ⟨Tryz.f266.name, by decide, Tryz.func266.trans (congrArg some (by kernel_rfl))⟩
  f47 := Tryz.func252.trans (congrArg some (by kernel_rfl))
  f48 := Tryz.func253.trans (congrArg some (by kernel_rfl))
  f49 := ⟨Tryz.f267.name, by decide, Tryz.func267.trans (congrArg some (by kernel_rfl))⟩
  f50 := ⟨Tryz.f268.name, by decide, Tryz.func268.trans (congrArg some (by kernel_rfl))⟩
  f57 := ⟨Tryz.f269.name, by decide, Tryz.func269.trans (congrArg some (by kernel_rfl))⟩
  t0 := Tryz.underlying0
  a0 := Tryz.isAgg0
  z0 := Tryz.sizeOf0
  v0 := Tryz.zeroValue0
  t3 := Tryz.underlying3
  a3 := Tryz.isAgg3
  z3 := Tryz.sizeOf3
  v3 := Tryz.zeroValue3
  t4 := Tryz.underlying4
  a4 := Tryz.isAgg4
  z4 := Tryz.sizeOf4
  v4 := Tryz.zeroValue4
  t5 := Tryz.underlying5
  a5 := Tryz.isAgg5
  z5 := Tryz.sizeOf5
  v5 := Tryz.zeroValue5
  t9 := Tryz.underlying9
  a9 := Tryz.isAgg9
  z9 := Tryz.sizeOf9
  v9 := Tryz.zeroValue9
  t22 := Tryz.underlying23
  a22 := Tryz.isAgg23
  z22 := Tryz.sizeOf23
  v22 := Tryz.zeroValue23
  a24 := Tryz.isAgg22
  z24 := Tryz.sizeOf22
  t25 := Tryz.underlying171
  a25 := Tryz.isAgg171
  z25 := Tryz.sizeOf171
  v25 := Tryz.zeroValue171
  t39 := Tryz.underlying168
  a39 := Tryz.isAgg168
  z39 := Tryz.sizeOf168
  v39 := Tryz.zeroValue168
  t45 := Tryz.underlying190
  a45 := Tryz.isAgg190
  z45 := Tryz.sizeOf190
  v45 := Tryz.zeroValue190
  t46 := Tryz.underlying191
  a46 := Tryz.isAgg191
  z46 := Tryz.sizeOf191
  v46 := Tryz.zeroValue191
  t50 := Tryz.underlying195
  a50 := Tryz.isAgg195
  z50 := Tryz.sizeOf195
  v50 := Tryz.zeroValue195
  t53 := Tryz.underlying198
  a53 := Tryz.isAgg198
  z53 := Tryz.sizeOf198
  v53 := Tryz.zeroValue198
  t55 := Tryz.underlying95
  a55 := Tryz.isAgg95
  z55 := Tryz.sizeOf95
  v55 := Tryz.zeroValue95
  t66 := Tryz.underlying204
  a66 := Tryz.isAgg204
  z66 := Tryz.sizeOf204
  v66 := Tryz.zeroValue204
  t70 := Tryz.underlying208
  a70 := Tryz.isAgg208
  z70 := Tryz.sizeOf208
  v70 := Tryz.zeroValue208
  t76 := Tryz.underlying216
  a76 := Tryz.isAgg216
  z76 := Tryz.sizeOf216
  v76 := Tryz.zeroValue216
  t77 := Tryz.underlying217
  a77 := Tryz.isAgg217
  z77 := Tryz.sizeOf217
  v77 := Tryz.zeroValue217 }
end Go.Proofs.YtdklekdpdbjfiaaGreat

/- A row that the call has built, sorted by the library: any elements of one cell. (After the library's Sort/OwnSortedInts, at a general reading.) -/
namespace Go.Proofs.YtdklekdpdbjfiaaGreat
open Go.Proofs Go.Shelf Go.RowKit Go.Lib Go.Sort

section
variable {α : Type} [Inhabited α] {enc : α → Value}
theorem holds_of_blockV {w : World} {g : Nat} {cur : Array Value} {e : TypeId} {ss : List α} (hb : w.heap[g]? = some (.cells cur e (0, 0))) (ht : cur.toList.take ss.length = ss.map enc) : Go.Sort.Holds enc w g 0 ss.toArray := by
  intro j hj
  have hj' : j < ss.length := by simpa using hj
  refine ⟨?_, by simp [World.frozen?, hb]⟩
  have h1 : (cur.toList.take ss.length)[j]? = (ss.map enc)[j]? := by rw [ht]
  rw [List.getElem?_take_of_lt hj'] at h1
  simp only [World.cell?, hb, Nat.zero_add]
  simp only [Option.isSome_none, Bool.false_eq_true, if_false]
  rw [← Array.getElem?_toList, h1]
  simp [hj']

theorem heap_sortedV {w : World} {g n : Nat} {os : Array Obj} {cur : Array Value} {e : TypeId} {fr : Nat × Nat} (d : Array α) (hb : w.heap[g]? = some (.cells cur e fr)) :
    (sortWorld enc w g 0 n d os).heap[g]? = some (.cells (putCells enc 0 d cur) e fr) := by
  have hg : g < w.heap.size := (Array.getElem?_eq_some_iff.1 hb).1
  unfold sortWorld
  rw [heap_grow_old _ _ (by simpa using hg)]
  simp [putRow, mapBlock, Sort.ahead, Array.getElem?_modify, hb, onCells]

theorem grownBy_sortedV {w : World} {g n : Nat} {os : Array Obj} (d : Array α) : w.grownBy (sortWorld enc w g 0 n d os) (some g) := by
  unfold sortWorld
  refine ⟨rfl, rfl, rfl, by simp, fun k hk hne => ?_⟩
  rw [heap_grow_old _ _ (by simpa using hk)]
  have : g ≠ k := fun e => hne (by rw [e])
  simp [putRow, mapBlock, Sort.ahead, Array.getElem?_modify, this]

theorem take_putCellsV (cur : Array Value) (ts : List α) (h : ts.length ≤ cur.size) : (putCells enc 0 ts.toArray cur).toList.take ts.length = ts.map enc := by
  apply List.ext_getElem?
  intro j
  by_cases hj : j < ts.length
  · rw [List.getElem?_take_of_lt hj, Array.getElem?_toList]
    simp [putCells, hj, show j < cur.size by omega]
  · rw [List.getElem?_take_eq_none (by omega), List.getElem?_eq_none (by simp; omega)]

theorem ownsRow_sortedV {w : World} {base g cap n : Nat} {e : TypeId} {os : Array Obj} {cur : Array Value} {ss ts : List α} (hl : ts.length = ss.length) (hbase : base ≤ g) (hb : w.heap[g]? = some (.cells cur e (0, 0)))
    (h1 : ss.length ≤ cap) (h2 : cap ≤ maxLen) (h3 : cur.size = cap * 1) :
    (sortWorld enc w g 0 n ts.toArray os).ownsRow base e 1 (.slice (some ⟨g, 0, none⟩) ss.length cap) ss.length (ts.map enc) :=
  ⟨by simp [hl], .inr ⟨g, cap, _, rfl, hbase, heap_sortedV _ hb, h1, h2, by simp [putCells, h3], by rw [Nat.mul_one, ← hl]; exact take_putCellsV cur ts (by omega)⟩⟩
end

/-- a slice value of the row, nil beyond it -/
def encAt (vs : List Value) (k : Nat) : Value := if k < vs.length then gt vs k else .slice none 0 0
def cfAt (L : List (List Int)) (i j : Nat) : Int := cmpL (gt L i) (gt L j)

theorem ltOf_true {L : List (List Int)} {x y : Nat} : ltOf (cfAt L) x y = true ↔ cmpL (gt L x) (gt L y) < 0 := by unfold ltOf; rw [decide_eq_true_iff]; rfl
theorem ltOf_false {L : List (List Int)} {x y : Nat} : ltOf (cfAt L) x y = false ↔ 0 ≤ cmpL (gt L x) (gt L y) := by
  unfold ltOf; rw [decide_eq_false_iff_not]; show ¬ (cmpL (gt L x) (gt L y) < 0) ↔ _; omega

theorem swo_cfAt (L : List (List Int)) : SWO (ltOf (cfAt L)) where
  irrefl x := by
    have := (cmpL_zero (gt L x) (gt L x)).2 rfl
    rw [ltOf_false]; omega
  trans x y z h k := by
    rw [ltOf_true] at *
    have h1 := cmpL_le_trans (gt L x) (gt L y) (gt L z) (by omega) (by omega)
    have h2 : cmpL (gt L x) (gt L z) ≠ 0 := by
      intro e
      rw [cmpL_zero] at e
      rw [e] at h
      have := cmpL_swap (gt L z) (gt L y)
      omega
    omega
  ntrans x y z h k := by
    rw [ltOf_false] at *
    have h1 := cmpL_swap (gt L x) (gt L y)
    have h2 := cmpL_swap (gt L y) (gt L z)
    have h3 := cmpL_swap (gt L x) (gt L z)
    have h4 := cmpL_le_trans (gt L z) (gt L y) (gt L x) (by omega) (by omega)
    omega

theorem encAt_one {vs : List Value} (h : ∀ i, i < vs.length → (gt vs i).oneCell' = true) : OneCell (encAt vs) := by
  intro k
  unfold encAt
  split
  · exact h k (by assumption)
  · rfl

theorem gt_inj {α : Type} [Inhabited α] {l : List α} (h : l.Nodup) {i j : Nat} (hi : i < l.length) (hj : j < l.length) (he : gt l i = gt l j) : i = j := by
  simp only [gt, List.getD_eq_getElem?_getD, List.getElem?_eq_getElem hi, List.getElem?_eq_getElem hj, Option.getD_some] at he
  rcases Nat.lt_trichotomy i j with h1 | h1 | h1
  · exact absurd he (List.pairwise_iff_getElem.1 h i j hi hj h1)
  · exact h1
  · exact absurd he.symm (List.pairwise_iff_getElem.1 h j i hj hi h1)

/-- slices.SortFunc with slices.Compare on rows that the call has built -/
theorem sortRows_ok (w : World) (v : Value) (L : List (List Int)) (B : Nat) (hL : RowsO B w v L) (hne : 0 < L.length) (hlen : L.length ≤ 1000000) :
    Calls Tryz.prog 216 #[v, .func (.func 203) #[] #[]] w fun e w' => e = .returned (.tuple #[]) ∧ RowsO B w' v (sortL L) ∧ w.grownBy w' v.ownBlock := by
  obtain ⟨vs, G, hvl, hO, hG, hd, hE⟩ := hL
  obtain ⟨_, ⟨rfl, h0⟩ | ⟨g, cap, cur, rfl, hBg, hb, hnc, hcm, hsz, hx⟩⟩ := hO
  · omega
  have hgs : g < w.heap.size := (Array.getElem?_eq_some_iff.1 hb).1
  have hone : OneCell (encAt vs) := encAt_one fun i hi => by
    exact rdOwn.one (hE i (by omega))
  have hmap : (List.range L.length).map (encAt vs) = vs := by
    apply List.ext_getElem (by simp [hvl])
    intro j h1 h2
    simp [encAt, gt, h2]
  have hH : Go.Sort.Holds (encAt vs) w g 0 (List.range L.length).toArray := holds_of_blockV hb (by rw [hmap, List.length_range, ← hvl]; simpa using hx)
  have eg : ∀ args w, (callFunc 203 args).run Tryz.prog w = .ok (.enter 203 args) w := enters_of Tryz.func203 (by kernel_rfl) rfl
  have hcmp : CmpReads Tryz.prog 203 #[] (encAt vs) (cfAt L) g 0 (List.range L.length).toArray.size w := by
    intro m os dk _ x y
    have hgr : w.grownBy (sortWorld (encAt vs) w g 0 m dk os) (some g) := grownBy_sortedV dk
    have hread : ∀ k, Ints Any (sortWorld (encAt vs) w g 0 m dk os) (encAt vs k) (gt L k) := by
      intro k
      by_cases hk : k < vs.length
      · have he := (hE k (by omega)).ints
        unfold encAt
        rw [if_pos hk]
        exact Ints.mono he (fun b hb2 hlt => ⟨trivial, Nat.lt_of_lt_of_le hlt hgr.size, hgr.block b hlt (fun e => (hG k b (by omega) hb2).2.1 (by cases e; rfl))⟩)
      · have h1 : gt L k = [] := by simp [gt, show ¬ k < L.length by omega]; rfl
        unfold encAt
        rw [if_neg hk, h1]
        exact ⟨none, 0, rfl, ⟨by simp, by simp, fun _ => rfl⟩, fun i hi => by simp at hi⟩
    refine (sCompare_ok _ _ _ _ _ _ _ (hread x) (hread y)).mono ?_
    rintro e w' ⟨rfl, rfl⟩
    exact ⟨rfl, 0, rfl⟩
  have hcon := Any.slices_SortFunc Tryz.sortRows (encAt vs) hone (cfAt L) (swo_cfAt L) 203 #[] g 0 cap (List.range L.length).toArray w eg hcmp.lays hH hgs (by simp; omega)
  change Calls Tryz.prog 216 _ _ _ at hcon
  have hsz2 : (List.range L.length).toArray.size = vs.length := by simp [hvl]
  rw [hsz2] at hcon
  refine hcon.mono ?_
  rintro e w' ⟨he, d', n, os, ⟨hs1, _, hperm⟩, hsorted, rfl⟩
  have hts : d'.toList.length = L.length := by simpa [hvl] using hs1
  have hP : d'.toList.Perm (List.range L.length) := by
    have h1 : d'.extract 0 vs.length = d' := by
      apply Array.ext'
      rw [hvl, ← hts]; simp
    have h2 : (List.range L.length).toArray.extract 0 vs.length = (List.range L.length).toArray := by
      apply Array.ext'
      rw [hvl]; simp
    rw [h1, h2] at hperm
    simpa using hperm
  have hin : ∀ i, i < L.length → gt d'.toList i < L.length := fun i hi => by
    have := hP.subset (gt_mem (l := d'.toList) (i := i) (by omega))
    simpa using this
  have hnd : d'.toList.Nodup := hP.symm.nodup List.nodup_range
  have hmapL : (List.range L.length).map (gt L) = L := by
    apply List.ext_getElem (by simp)
    intro j h1 h2
    simp [gt, h2]
  have hsort : d'.toList.map (gt L) = sortL L := by
    refine sortL_unique ?_ ?_
    · have := hP.map (gt L)
      rwa [hmapL] at this
    · refine List.pairwise_iff_getElem.2 ?_
      intro i j hi hj hij
      have hi' : i < d'.size := by simpa using hi
      have hj' : j < d'.size := by simpa using hj
      have h1 := hsorted i j (Nat.zero_le _) hij (by rw [hs1, hsz2] at hj'; exact hj')
      rw [ltOf_false, getElem!_pos d' i hi', getElem!_pos d' j hj'] at h1
      have h2 := cmpL_swap (gt L d'[j]) (gt L d'[i])
      simp only [List.getElem_map, Array.getElem_toList]
      omega
  have hgr : w.grownBy (sortWorld (encAt vs) w g 0 n d' os) (some g) := grownBy_sortedV d'
  have hgv : ∀ i, i < L.length → gt (d'.toList.map (encAt vs)) i = gt vs (gt d'.toList i) := fun i hi => by
    have h1 : gt (d'.toList.map (encAt vs)) i = encAt vs (gt d'.toList i) := gt_map _ _ _ (by omega)
    rw [h1]; unfold encAt; rw [if_pos (by rw [hvl]; exact hin i hi)]
  have hgL : ∀ i, i < L.length → gt (sortL L) i = gt L (gt d'.toList i) := fun i hi => by
    rw [← hsort]; exact gt_map _ _ _ (by omega)
  have hsl : (sortL L).length = L.length := (sortL_perm L).length_eq
  refine ⟨he, ⟨d'.toList.map (encAt vs), fun i k => G (gt d'.toList i) k, by simp [hsl, ← hts], ?_, ?_, ?_, ?_⟩, hgr⟩
  · have := ownsRow_sortedV (enc := encAt vs) (n := n) (os := os) (ss := List.range L.length) (ts := d'.toList) (by rw [hts, List.length_range]) hBg hb (by rw [List.length_range, ← hvl]; exact hnc) hcm hsz
    rw [List.length_range, ← hvl] at this
    unfold OwnV
    rw [show (d'.toList.map (encAt vs)).length = vs.length by rw [List.length_map, hts, hvl]]
    simpa using this
  · intro i k hi hk
    obtain ⟨a1, a2, a3⟩ := hG _ k (hin i (by omega)) hk
    exact ⟨a1, a2, Nat.lt_of_lt_of_le a3 hgr.size⟩
  · intro i j k hi hj hk hk'
    exact gt_inj hnd (by omega) (by omega) (hd _ _ k (hin i (by omega)) (hin j (by omega)) hk hk')
  · intro i hi
    show OwnIn _ _ _ _
    rw [hgv i (by omega), hgL i (by omega)]
    have he := hE _ (hin i (by omega))
    exact rdOwn.mono he (fun b hb2 hlt => ⟨hb2, Nat.lt_of_lt_of_le hlt hgr.size, hgr.block b hlt (fun e => (hG _ b (hin i (by omega)) hb2).2.1 (by cases e; rfl))⟩)

end Go.Proofs.YtdklekdpdbjfiaaGreat

/- impl.elementsOf. -/
namespace Go.Proofs.YtdklekdpdbjfiaaGreat
open Go.RowKit

/-- the blocks below m that lie in a set of an index from i on -/
def Rest (m : Nat) (F : Nat → Nat → Prop) (i n : Nat) : Nat → Prop := fun k => k < m ∧ ∃ j, i ≤ j ∧ j < n ∧ F j k

theorem SlOA.nil {α : Type} [Inhabited α] (El : (Nat → Prop) → World → Value → α → Prop) (E B : Nat) (A : Nat → Prop) (w : World) : SlOA El E B A w (.slice none 0 0) ([] : List α) :=
  ⟨[], fun _ _ => False, rfl, World.ownsRow_nil _ _ _ _, by simp, by simp, by simp, by simp, by simp [Value.ownBlock]⟩

set_option maxRecDepth 100000 in
set_option maxHeartbeats 4000000 in
theorem elementsOf_ok (P : Pr) (G : Grp P) (w : World) (p uv : Value) (U : List (List Int)) (Sp Su : Nat → Prop) (hp : PresP Sp w p P) (hu : Rows2 Su w uv U) (hU : SeqOk P U) (hl : U.length ≤ 6) :
    Calls Tryz.prog 157 #[p, uv] w (Ret w fun w' v => RowsO w.heap.size w' v (sortL (elsP P U U.length))) := by
  have hP := G.v
  have hn6 := hP.n6
  obtain ⟨pb, po, rfl⟩ := hp.shape
  obtain ⟨ao, capo, hco0, hoi⟩ := hp.ordAt
  obtain ⟨au, capu, rfl, _, _⟩ := Sl.shape hu
  have hUz : ∀ z ∈ U, dep z < z.length := fun z hz => by have := hU.1 z hz; rw [this.1.1]; exact this.2.1
  have HU := Lib.hid hU; clear hU
  go_enter Tryz.func157, Tryz.ntmps157
  go_wp2_with (first | (at_make; refine wp_make_ints rfl _ _ rfl w.heap.size P.orders.length w.heap.size rfl _ rfl rfl rfl (by omega) (Nat.le_refl _) ?_; intro w1 ho1 hg1 hlt1) | fail)
  have hz1 : OwnIn (From w.heap.size) w1 (.slice (some ⟨w.heap.size, 0, none⟩) P.orders.length P.orders.length) (zeros P.orders.length) := OwnIn.of ho1 (by simp [zeros]; omega) (fun j h1 _ => h1)
  have hO1 := rowsOne hz1 hg1.size
  have hga : Ext w1 (w1.alloc (.cells #[.slice (some ⟨w.heap.size, 0, none⟩) P.orders.length P.orders.length] 22)) := World.grownBy_alloc _ _ _
  have hg2 := grown_trans hg1 hga
  clear ho1 hz1 hga hg1 hlt1
  generalize hw2 : w1.alloc (.cells #[.slice (some ⟨w.heap.size, 0, none⟩) P.orders.length P.orders.length] 22) = w2 at *
  clear hw2
  refine Calls.mono (pivots_ok _ U w2 Su (Rows2.ext hu hg2) hUz (by omega)) ?_
  rintro e3 w3 ⟨pv, rfl, hg3, hV3⟩
  have hg03 := grown_trans hg2 hg3
  have hO3 := SlO.ext rdOwn hO1 hg3
  clear hO1 hg2 hg3 hUz
  have hpvs : ∃ az capz, pv = .slice az U.length capz := by
    rcases hV3.form with ⟨h1, h2⟩ | ⟨g, cp, h1, _⟩
    · have h3 : U.length = 0 := by unfold depV at h2; rw [List.map_eq_nil_iff] at h2; rw [h2]; rfl
      exact ⟨none, 0, by rw [h1, h3]⟩
    · exact ⟨_, _, by rw [h1]; unfold depV; rw [List.length_map]⟩
  obtain ⟨ap, capp, rfl⟩ := hpvs
  go_wp2
  go_loopw [5, 21] (fun ov iv wr => ∃ (k : Nat) (v4 : Value), v4 = ov ∧ iv = .int .i64 k ∧ k ≤ U.length ∧ Ext w3 wr ∧ RowsO w.heap.size wr v4 (elsP P U k)) (fun _ iv _ => U.length - (intOf iv).toNat)
  case atStart => exact ⟨0, _, rfl, rfl, by omega, Ext.refl _, hO3⟩
  case round =>
    clear hO3
    obtain ⟨k, v4, rfl, rfl, hk, hg, hO⟩ := hrel
    have hXl0 := elsP_len hP HU.out k hk
    have hX729 := prodU_729 hP HU.out k hk
    by_cases hlt : k < U.length
    · have hlt' : (k : Int) < U.length := by omega
      have hdi : gt (depV U) k = .int .i64 (dep (gt U k)) := by unfold depV; rw [gt_map _ _ _ hlt]
      have hpf : ∃ g, ap = some ⟨g, 0, none⟩ := by
        rcases hV3.form with ⟨h1, h2⟩ | ⟨g, cp, h1, _⟩
        · unfold depV at h2; rw [List.map_eq_nil_iff] at h2; rw [h2] at hlt; simp at hlt
        · simp only [Value.slice.injEq] at h1; exact ⟨g, h1.1⟩
      obtain ⟨gp, rfl⟩ := hpf
      have hcp3 := hV3.cell k (by unfold depV; rw [List.length_map]; exact hlt)
      rw [hdi] at hcp3
      clear hdi
      have hcp := hg.cell hcp3 (by simp)
      clear hcp3
      obtain ⟨d, hd⟩ : ∃ d, d = dep (gt U k) := ⟨_, rfl⟩
      obtain ⟨z, hz⟩ : ∃ z, z = gt U k := ⟨_, rfl⟩
      have hdn : d < P.orders.length := by rw [hd]; exact (HU.out.1 _ (gtMem hlt)).2.1
      have hzV : Vec P.orders z := by rw [hz]; exact (HU.out.1 _ (gtMem hlt)).1
      obtain ⟨o, ho⟩ : ∃ o, o = (gt P.orders d).toNat := ⟨_, rfl⟩
      have ho7 := hP.ord7 d hdn
      have hoo : gt P.orders d = (o : Int) := by omega
      obtain ⟨X, hX⟩ : ∃ X, X = elsP P U k := ⟨_, rfl⟩
      have hXn : elsP P U (k + 1) = X.flatMap (stepE P z o) := by rw [hX, ho, hd, hz]; rfl
      have hXV : ∀ x ∈ X, Vec P.orders x := by rw [hX]; exact elsP_sub G.sub_all (fun z hz => (HU.out.1 z hz).1) k hk
      rw [← hd] at hcp
      rw [← hX] at hO hXl0
      have hXl : X.length ≤ 729 := by omega
      have hX1 : 1 ≤ X.length := by omega
      clear hXl0 hX729
      obtain ⟨vs, F, hvl, hOv, hF, hFd, hFE⟩ := hO
      obtain ⟨gx, capx, hv4⟩ : ∃ gx capx, v4 = .slice (some ⟨gx, 0, none⟩) X.length capx := by
        rcases hOv.form with ⟨h1, h2⟩ | ⟨g, cp, h1, _⟩
        · rw [h2] at hvl; simp at hvl; omega
        · exact ⟨g, cp, by rw [h1, hvl]⟩
      subst hv4
      have HX := Lib.hid (And.intro hXn (And.intro hXV (And.intro hX (And.intro hd (And.intro hz ho))))); clear hXn hXV hX hd ho
      obtain ⟨wo, rfl⟩ : ∃ wo : World, wo = wr := ⟨_, rfl⟩
      have hgw := grown_trans hg03 hg
      obtain ⟨bo, oo, rfl, _, _, hcod⟩ := Ints.at (hoi.ext hgw) d hdn
      have hc0 := hgw.cell hco0 (by simp)
      obtain ⟨bu, ou, a2, cap2, hau, _, _, hcu, hui⟩ := Rows2.at hu k hlt
      subst hau
      rw [← hz] at hcu hui
      have hcu := hgw.cell hcu (by simp)
      clear hz
      have hdn' : (d : Int) < P.orders.length := by omega
      have HC := Lib.hid (And.intro hc0 (And.intro hcod hcu)); clear hc0 hcod hcu
      go_wp2
      clear hcp
      go_loopw [8, 28] (fun nv jv wr => ∃ (j : Nat) (v5 : Value), v5 = nv ∧ jv = .int .i64 j ∧ j ≤ X.length ∧ Ext wo wr ∧ SlOA OwnIn 22 w.heap.size (Rest wo.heap.size F j X.length) wr v5 ((X.take j).flatMap (stepE P z o)) ∧ Hid (∀ b, v5.ownBlock = some b → wo.heap.size ≤ b)) (fun _ jv _ => X.length - (intOf jv).toNat)
      case atStart => exact ⟨0, _, rfl, rfl, by omega, Ext.refl _, SlOA.nil _ _ _ _ _, Lib.hid (fun b hb => by simp [Value.ownBlock] at hb)⟩
      case round =>
        obtain ⟨j, v5, rfl, rfl, hj, hgm, hA, hob⟩ := hrel
        by_cases hjl : j < X.length
        · have hjl' : (j : Int) < X.length := by omega
          have hxE := hFE j hjl
          obtain ⟨ax, cx, hvx, _, _⟩ := hxE.ints.shape
          have hcx := hgm.cell (hOv.cell j (by omega)) (by simp)
          rw [hvx] at hcx hxE
          have hc0 := hgm.cell HC.out.1 (by simp)
          have hcod := hgm.cell HC.out.2.1 (by simp)
          rw [hoo] at hcod
          have hxV := HX.out.2.1 _ (gtMem hjl)
          have hxe : rMul P (gt X j) (pw P z 0) = gt X j := G.grp.er _ hxV
          have hpl : ((X.take j).flatMap (stepE P z o)).length ≤ 729 * 7 := by
            rw [flatMap_len, List.length_take]
            exact Nat.mul_le_mul (by omega) (by omega)
          have HPL := Lib.hid (And.intro hxV (And.intro hxe hpl)); clear hxV hxe hpl hvx
          obtain ⟨x, hx⟩ : ∃ x, x = gt X j := ⟨_, rfl⟩
          rw [← hx] at hcx hxE HPL
          have HXJ := Lib.hid hx; clear hx
          have hxE2 := rdOwn.mono (F' := F j) hxE (fun b hb hlt => ⟨hb, Nat.lt_of_lt_of_le hlt hgm.size, hgm.block b hlt (by simp)⟩)
          go_wp2
          clear hc0 hcod hcx
          go_loopw [8, 10, 39] (fun nv xv tv wr => ∃ (t : Nat) (v6 : Value) (Y : List Int) (A Fx : Nat → Prop), v6 = nv ∧ tv = .int .i64 t ∧ t ≤ o ∧ Ext wo wr ∧ OwnIn Fx wr xv Y ∧ SlOA OwnIn 22 w.heap.size A wr v6 ((X.take j).flatMap (stepE P z o) ++ stepE P z t x) ∧
              Hid (Y = rMul P x (pw P z t) ∧ (∀ b, Fx b → b < wr.heap.size → A b ∧ w.heap.size ≤ b) ∧ (∀ b, Rest wo.heap.size F (j + 1) X.length b → A b ∧ ¬ Fx b) ∧ (∀ b, A b → b < wr.heap.size) ∧ ∀ b, v6.ownBlock = some b → wo.heap.size ≤ b)) (fun _ _ tv _ => o - (intOf tv).toNat)
          case atStart =>
            refine ⟨0, v5, x, Rest wo.heap.size F j X.length, F j, rfl, rfl, by omega, hgm, hxE2, ?_, Lib.hid ⟨HPL.out.2.1.symm, fun b hb _ => ?_, fun b hb => ?_, fun b hb => Nat.lt_of_lt_of_le hb.1 hgm.size, hob.out⟩⟩
            · unfold stepE; rw [List.range_zero, List.map_nil, List.append_nil]; exact hA
            · obtain ⟨f1, _, f3⟩ := hF j b hjl hb
              exact ⟨⟨f3, j, Nat.le_refl _, hjl, hb⟩, f1⟩
            · obtain ⟨h1, i, h2, h3, h4⟩ := hb
              exact ⟨⟨h1, i, by omega, h3, h4⟩, fun h => by have := hFd i j b h3 hjl h4 h; omega⟩
          case round =>
            clear hxE2 hA hob hxE
            obtain ⟨t, v6, Y, A, Fx, rfl, rfl, ht, hgi, hxv, hA, hH⟩ := hrel
            by_cases htl : t < o
            · have htl' : (t : Int) < o := by omega
              obtain ⟨ay, cy, hvy, _, _⟩ := hxv.ints.shape
              subst hvy
              have hgwr := grown_trans hgw hgi
              have hYV : Vec P.orders Y := by rw [hH.out.1]; exact G.mulV HPL.out.1 (G.pw_vec hzV t)
              have hYn : tv P Y z = rMul P x (pw P z (t + 1)) := by rw [G.tv_eq hYV hzV, hH.out.1, G.step_mul HPL.out.1 hzV]
              have hsl : ((X.take j).flatMap (stepE P z o) ++ stepE P z t x).length ≤ 1000000 := by
                rw [List.length_append, stepE_len]; have := HPL.out.2.2; omega
              have hYV2 := G.mulV HPL.out.1 (G.pw_vec hzV (t + 1))
              have HY := Lib.hid (And.intro hYV (And.intro hYn (And.intro hsl hYV2))); clear hYV hYn hsl hYV2
              have hcur := hgi.cell HC.out.2.2 (by simp)
              go_wp2_with (first | (at_builtin; refine wp_app_take rfl _ _ rfl w.heap.size A (Rest wo.heap.size F (j + 1) X.length) Fx wr v6 _ _ Y rfl hA hxv hH.out.2.1 hH.out.2.2.1 hH.out.2.2.2.1 rfl rfl HY.out.2.2.1 hgwr.size ?_; intro v7 w7 hA7 hg7 hob7; have hcur7 := grown_own hgi hg7 (fun b hb hlt => by have := hH.out.2.2.2.2 b hb; omega); have hcu7 := hcur7.cell HC.out.2.2 (by simp)) | fail)
              have hxv7 : Ints Any w7 (.slice ay Y.length cy) Y := Ints.mono hxv.ints (fun b hb hlt => ⟨trivial, Nat.lt_of_lt_of_le hlt hg7.size, hg7.block b hlt (fun e => by
                obtain ⟨a1, _⟩ := hH.out.2.1 b hb hlt
                exact (hA.avoids b e.symm).1 a1)⟩)
              have hgw7 := grown_trans hgw hcur7
              refine Calls.mono (multiply_ok P hP w7 _ _ _ Y z Sp Any Su (hp.ext hgw7) hxv7 (Ints.ext hui hgw7) HY.out.1 hzV) ?_
              rintro eC wC ⟨vC, rfl, hgC, hOC⟩
              rw [HY.out.2.1] at hOC
              have hOC2 : OwnIn (fun b => w7.heap.size ≤ b ∧ b < wC.heap.size) wC vC (rMul P x (pw P z (t + 1))) := OwnIn.of hOC (by rw [HY.out.2.2.2.1]; omega) (fun j h1 h2 => ⟨h1, h2⟩)
              have hA8 : SlOA OwnIn 22 w.heap.size (fun b => Rest wo.heap.size F (j + 1) X.length b ∨ (w7.heap.size ≤ b ∧ b < wC.heap.size)) wC v7 ((X.take j).flatMap (stepE P z o) ++ stepE P z (t + 1) x) := by
                rw [stepE_succ, ← List.append_assoc, ← hH.out.1]
                exact (hA7.more (fun b hb => hb.elim .inl (fun h => .inr h.1))).ext rdOwn hgC
              have hH2 : Hid ((∀ b, (w7.heap.size ≤ b ∧ b < wC.heap.size) → b < wC.heap.size → (Rest wo.heap.size F (j + 1) X.length b ∨ (w7.heap.size ≤ b ∧ b < wC.heap.size)) ∧ w.heap.size ≤ b) ∧ (∀ b, Rest wo.heap.size F (j + 1) X.length b → (Rest wo.heap.size F (j + 1) X.length b ∨ (w7.heap.size ≤ b ∧ b < wC.heap.size)) ∧ ¬ (w7.heap.size ≤ b ∧ b < wC.heap.size)) ∧
                  (∀ b, Rest wo.heap.size F (j + 1) X.length b ∨ (w7.heap.size ≤ b ∧ b < wC.heap.size) → b < wC.heap.size) ∧ ∀ b, v7.ownBlock = some b → wo.heap.size ≤ b) := by
                refine Lib.hid ⟨fun b hb _ => ⟨.inr hb, by have := hgw7.size; omega⟩, fun b hb => ⟨.inl hb, fun h => by have := hb.1; have := hcur7.size; omega⟩, fun b hb => ?_, fun b hb => ?_⟩
                · rcases hb with h | h
                  · have := h.1; have := hcur7.size; have := hgC.size; omega
                  · exact h.2
                · rcases hob7 with h | h
                  · exact hH.out.2.2.2.2 b (by rw [← h]; exact hb)
                  · have := h b hb; have := hgi.size; omega
              clear hA hH hxv hA7 hob7 hOC hxv7 hcu7 hcur
              go_wp2
              go_roundw
              case rel => exact ⟨t + 1, v7, _, _, _, rfl, by go_num, by omega, grown_trans hcur7 hgC, hOC2, hA8, Lib.hid ⟨rfl, hH2.out⟩⟩
              case measure => simp [intOf]; omega
            · have hte : t = o := by omega
              subst hte
              have hst := flatMap_take_succ X (stepE P z t) j hjl
              rw [← HXJ.out] at hst
              have hA9 : SlOA OwnIn 22 w.heap.size (Rest wo.heap.size F (j + 1) X.length) wr v6 ((X.take (j + 1)).flatMap (stepE P z t)) := by
                rw [hst]; exact hA.less (fun b hb => (hH.out.2.2.1 b hb).1)
              have hob9 := Lib.hid hH.out.2.2.2.2
              clear hst hA hH hxv
              go_wp2
              go_roundw
              case rel => exact ⟨j + 1, v6, rfl, by go_num, by omega, hgi, hA9, hob9⟩
              case measure => simp [intOf]; omega
        · have hje : j = X.length := by omega
          subst hje
          have hO9 : RowsO w.heap.size wr v5 (elsP P U (k + 1)) := by
            rw [HX.out.1]
            have := hA.o
            rw [List.take_length] at this
            exact this
          clear hA hob
          go_wp2
          go_roundw
          case rel => exact ⟨k + 1, v5, rfl, by go_num, by omega, grown_trans hg hgm, hO9⟩
          case measure => simp [intOf]; omega
    · have hke : k = U.length := by omega
      subst hke
      have hne : 0 < (elsP P U U.length).length := by omega
      have hl9 : (elsP P U U.length).length ≤ 1000000 := by omega
      obtain ⟨az, capz, hvz, _, _⟩ := SlD.shape (hO.toD (by omega))
      have HN := Lib.hid (And.intro hne hl9); clear hXl0 hX729 hne hl9
      subst hvz
      go_wp2_with fail
      refine Calls.mono (sortRows_ok wr _ (elsP P U U.length) w.heap.size hO HN.out.1 HN.out.2) ?_
      rintro eS wS ⟨rfl, hOS, hgS⟩
      have hgwS : Ext w wS := grown_own (grown_trans hg03 hg) hgS (fun b hb hlt => by have := (hO.lt b hb).1; omega)
      clear hO
      go_wp2
      go_ret
      exact ⟨_, rfl, hgwS, hOS⟩

end Go.Proofs.YtdklekdpdbjfiaaGreat

/- The reference's coset representatives and membership: spec.l12Reduce, l12Sift, l12Has. -/
namespace Go.Proofs.YtdklekdpdbjfiaaGreat
open Go.RowKit

end Go.Proofs.YtdklekdpdbjfiaaGreat

/- The reference's membership and order: spec.l01Zero, l12Sift, l12Has, l12Order. -/
namespace Go.Proofs.YtdklekdpdbjfiaaGreat
open Go.RowKit

set_option maxRecDepth 100000 in
set_option maxHeartbeats 2000000 in
theorem l12Order_ok (P : Pr) (hP : Valid P) (w : World) (pv uv : Value) (U : List (List Int)) (Sp Su : Nat → Prop) (hpv : PresV Sp w pv P) (hu : Rows2 Su w uv U) (hU : SeqOk P U) (hl : U.length ≤ 100) :
    Calls Tryz.prog 61 #[pv, uv] w (Ret w fun _ v => v = .int .i64 (prodU P U U.length)) := by
  have hn6 := hP.n6
  obtain ⟨vo, vp, vc, rfl, h3⟩ := hpv
  have hp0 := PresP.box h3 31
  have hg0 : Ext w (w.alloc (.cells #[vo, vp, vc] 31)) := World.grownBy_alloc _ _ _
  have hu0 := Rows2.ext hu hg0
  obtain ⟨ao, capo, hco, hoi⟩ := hp0.ordAt
  obtain ⟨au, capu, rfl, _, _⟩ := Sl.shape hu
  have HU := Lib.hid hU; clear hU hp0 hu
  go_enter Tryz.func61, Tryz.ntmps61
  go_wp2
  generalize hw0 : w.alloc (.cells #[vo, vp, vc] 31) = w0 at *
  clear hw0
  go_loopw [5, 6] (fun mv iv wr => ∃ i : Nat, mv = .int .i64 (prodU P U i) ∧ iv = .int .i64 i ∧ i ≤ U.length ∧ Ext w0 wr) (fun _ iv _ => U.length - (intOf iv).toNat)
  case atStart => exact ⟨0, rfl, rfl, by omega, Ext.refl _⟩
  case round =>
    obtain ⟨i, rfl, rfl, hi, hg⟩ := hrel
    by_cases hlt : i < U.length
    · have hlt' : (i : Int) < U.length := by omega
      obtain ⟨b, off, a2, cap2, rfl, _, _, hc, hr⟩ := Rows2.at (Rows2.ext hu0 hg) i hlt
      have hst : prodU P U (i + 1) = prodU P U i * gt P.orders (dep (gt U i)) := rfl
      have hb := prodU_729 hP HU.out (i + 1) hlt
      rw [hst] at hb
      obtain ⟨z, hz⟩ : ∃ z, z = gt U i := ⟨_, rfl⟩
      rw [← hz] at hc hr hst hb
      obtain ⟨d, hd⟩ : ∃ d, d = dep z := ⟨_, rfl⟩
      rw [← hd] at hst hb
      have hdn : d < P.orders.length := by rw [hd, hz]; exact (HU.out.1 _ (gtMem hlt)).2.1
      have HD := Lib.hid (And.intro hd hz); clear hd hz
      have hdn' : (d : Int) < P.orders.length := by omega
      obtain ⟨bo, oo, rfl, _, _, hcd⟩ := Ints.at (hoi.ext hg) d hdn
      have hw : IntKind.i64.wrap (prodU P U i * gt P.orders d) = prodU P U i * gt P.orders d := IntWalk.i64_in _ (by omega)
      have HS := Lib.hid hst; clear hst hb
      have e1 : ∀ w', Ext wr w' → w'.cell? ⟨w.heap.size, 0, none⟩ = some (.slice (some ⟨bo, oo, none⟩) P.orders.length capo) := fun w' h => (grown_trans hg h).cell hco (by simp)
      have e2 : ∀ w', Ext wr w' → w'.cell? ⟨b, off + i, none⟩ = some (.slice a2 z.length cap2) := fun w' h => h.cell hc (by simp)
      have e3 : ∀ w', Ext wr w' → w'.cell? ⟨bo, oo + d, none⟩ = some (.int .i64 (gt P.orders d)) := fun w' h => h.cell hcd (by simp)
      clear hc hcd
      go_wp2
      go_region_held3 (fun w' => Ext wr w') (first | exact grown_drew _ _ | assumption)
        (first
          | (go_at_call 111; refine Calls.mono (Calls.rel (w0 := wr) (by first | exact grown_drew _ _ | assumption) (l12Depth_ok _ z _ Any (Ints.sub (Ints.ext hr (by first | exact grown_drew _ _ | assumption)) (fun _ _ _ => trivial)))) ?_; rintro eE wE ⟨vE, rfl, hgE, hsE, hvE⟩; rw [← HD.out.1] at hvE; subst hvE))
      clear e1 e2 e3
      go_wp2
      go_roundw
      case rel => exact ⟨i + 1, by rw [HS.out], by go_num, by omega, grown_trans hg hgE⟩
      case measure => simp [intOf]; omega
    · have hie : i = U.length := by omega
      subst hie
      go_wp2
      go_ret
      exact ⟨_, rfl, grown_trans hg0 hg, rfl⟩

end Go.Proofs.YtdklekdpdbjfiaaGreat

/- Plain: the elements of a subgroup as products with exponents (for the reference's list of elements). -/
namespace Go.Proofs.YtdklekdpdbjfiaaGreat

section
variable {P : Pr} (G : Grp P)
include G

end

end Go.Proofs.YtdklekdpdbjfiaaGreat

/- The reference's list of the elements of a subgroup: spec.l12Orders, l10At at orders alone, l12Product, l12Elements. -/
namespace Go.Proofs.YtdklekdpdbjfiaaGreat
open Go.RowKit

end Go.Proofs.YtdklekdpdbjfiaaGreat

/- The reference's list of the elements of a subgroup: spec.l12Product, l12Elements. -/
namespace Go.Proofs.YtdklekdpdbjfiaaGreat
open Go.RowKit

/-- the first k numbers of elements in a set -/
noncomputable def elemsTo (P : Pr) (H : List Int → Prop) (k : Nat) : List (List Int) := by
  classical exact (List.range k).filterMap (fun t : Nat => if H (elAt P (t : Int)) then some (elAt P (t : Int)) else none)

theorem elemsTo_all (P : Pr) (H : List Int → Prop) : elemsTo P H (ordP P).toNat = elemsIn P H := by
  unfold elemsTo elemsIn
  rfl

theorem elemsTo_len (P : Pr) (H : List Int → Prop) (k : Nat) : (elemsTo P H k).length ≤ k := by
  unfold elemsTo
  have := List.length_filterMap_le (fun t : Nat => by classical exact (if H (elAt P (t : Int)) then some (elAt P (t : Int)) else none)) (List.range k)
  rw [List.length_range] at this
  exact this

end Go.Proofs.YtdklekdpdbjfiaaGreat

/- The reference's list of the elements of a subgroup: spec.l12Elements. -/
namespace Go.Proofs.YtdklekdpdbjfiaaGreat
open Go.RowKit

end Go.Proofs.YtdklekdpdbjfiaaGreat

/- The reference's test of a sequence: spec.l10Element, l10Elements, l01Same2, l12Is, IsSubgroup, l13Two. -/
namespace Go.Proofs.YtdklekdpdbjfiaaGreat
open Go.RowKit

theorem expZ_neg (o e : List Int) : expZB o e (-1) = expB o e := by
  unfold expZB expB
  congr 1
  congr 1
  funext i
  have : decide ((i : Int) ≤ -1) = false := by simp; omega
  rw [this]; simp

theorem l10Element_ok (P : Pr) (hP : Valid P) (w : World) (pv xv : Value) (X : List Int) (Sp Sx : Nat → Prop) (hpv : PresV Sp w pv P) (hx : Ints Sx w xv X) :
    Calls Tryz.prog 173 #[pv, xv] w (Ret w fun _ v => v = .bool (expB P.orders X)) := by
  obtain ⟨vo, vp, vc, rfl, h3⟩ := hpv
  have hp0 := PresP.box h3 31
  have hg0 : Ext w (w.alloc (.cells #[vo, vp, vc] 31)) := World.grownBy_alloc _ _ _
  have hx0 := hx.ext hg0
  obtain ⟨ao, capo, hco, hoi⟩ := hp0.ordAt
  obtain ⟨ax, capx, rfl, _, _⟩ := hx.shape
  have hcon := l07Exponents_ok _ _ _ P.orders X (-1) Any Sx hoi hx0 (fun i hi => by have := hP.ord7 i hi; omega)
  rw [expZ_neg] at hcon
  go_enter Tryz.func173, Tryz.ntmps173
  go_wp2_with fail
  refine Calls.mono hcon ?_
  rintro e1 w1 ⟨rfl, hd⟩
  clear hcon
  go_wp2
  go_ret
  exact ⟨_, rfl, grown_trans hg0 hd.ext, rfl⟩

set_option maxHeartbeats 1000000 in
theorem l10Elements_ok (P : Pr) (hP : Valid P) (w : World) (pv lv : Value) (L : List (List Int)) (Sp Sr : Nat → Prop) (hpv : PresV Sp w pv P) (hl : Rows2 Sr w lv L) :
    Calls Tryz.prog 108 #[pv, lv] w (Ret w fun _ v => ∃ r : Bool, v = .bool r ∧ (r = true ↔ ∀ x ∈ L, Vec P.orders x)) := by
  obtain ⟨vo, vp, vc, rfl, h3⟩ := hpv
  have hp0 := PresP.box h3 31
  have hg0 : Ext w (w.alloc (.cells #[vo, vp, vc] 31)) := World.grownBy_alloc _ _ _
  have hl0 := Rows2.ext hl hg0
  obtain ⟨al, capl, rfl, _, _⟩ := Sl.shape hl
  obtain ⟨vo6, vp6, vc6, _, _, hc0, hc1, hc2, h36⟩ := hp0.at
  simp only [Nat.zero_add] at hc1 hc2
  clear hp0 hl
  go_enter Tryz.func108, Tryz.ntmps108
  go_wp2
  generalize hw0 : w.alloc (.cells #[vo, vp, vc] 31) = w0 at *
  clear hw0
  go_loopw [5] (fun iv wr => ∃ i : Nat, iv = .int .i64 i ∧ i ≤ L.length ∧ Ext w0 wr ∧ Hid (∀ j, j < i → Vec P.orders (gt L j))) (fun iv _ => L.length - (intOf iv).toNat)
  case atStart => exact ⟨0, rfl, by omega, Ext.refl _, Lib.hid (fun j h => by omega)⟩
  case round =>
    obtain ⟨i, rfl, hi, hg, hV⟩ := hrel
    by_cases hlt : i < L.length
    · have hlt' : (i : Int) < L.length := by omega
      obtain ⟨b, off, a2, cap2, rfl, _, _, hc, hr⟩ := Rows2.at (Rows2.ext hl0 hg) i hlt
      have e1 : ∀ w', Ext wr w' → w'.cell? ⟨w.heap.size, 0, none⟩ = some vo6 := fun w' h => (grown_trans hg h).cell hc0 (by simp)
      have e2 : ∀ w', Ext wr w' → w'.cell? ⟨w.heap.size, 1, none⟩ = some vp6 := fun w' h => (grown_trans hg h).cell hc1 (by simp)
      have e3 : ∀ w', Ext wr w' → w'.cell? ⟨w.heap.size, 2, none⟩ = some vc6 := fun w' h => (grown_trans hg h).cell hc2 (by simp)
      have e4 : ∀ w', Ext wr w' → w'.cell? ⟨b, off + i, none⟩ = some (.slice a2 (gt L i).length cap2) := fun w' h => h.cell hc (by simp)
      clear hc
      cases hx : expB P.orders (gt L i) with
      | true =>
        have HX := Lib.hid (expB_vec.1 hx)
        have HX2 := Lib.hid hx; clear hx
        go_wp2
        go_region_held3 (fun w' => Ext wr w') (first | exact grown_drew _ _ | assumption)
          (first
            | (go_at_call 173; refine Calls.mono (Calls.rel (w0 := wr) (by assumption) (l10Element_ok P hP _ _ _ (gt L i) Any Any ⟨_, _, _, rfl, Pres3.ext (Pres3.ext h36 hg) (by assumption)⟩ (Ints.sub (Ints.ext hr (by assumption)) (fun _ _ _ => trivial)))) ?_; rintro eA wA ⟨vA, rfl, hgA, hsA, hvA⟩; rw [HX2.out] at hvA; subst hvA))
        clear e1 e2 e3 e4
        go_wp2
        go_roundw
        case rel => exact ⟨i + 1, by go_num, by omega, grown_trans hg hgA, Lib.hid (fun j hj => by
          rcases Nat.lt_succ_iff_lt_or_eq.1 hj with h | h
          · exact hV.out j h
          · rw [h]; exact HX.out)⟩
        case measure => simp [intOf]; omega
      | false =>
        have hno : ¬ ∀ x ∈ L, Vec P.orders x := fun h => by
          have := expB_vec.2 (h _ (gtMem hlt))
          rw [hx] at this; cases this
        have HX := Lib.hid hno
        have HX2 := Lib.hid hx; clear hx hno
        go_wp2
        go_region_held3 (fun w' => Ext wr w') (first | exact grown_drew _ _ | assumption)
          (first
            | (go_at_call 173; refine Calls.mono (Calls.rel (w0 := wr) (by assumption) (l10Element_ok P hP _ _ _ (gt L i) Any Any ⟨_, _, _, rfl, Pres3.ext (Pres3.ext h36 hg) (by assumption)⟩ (Ints.sub (Ints.ext hr (by assumption)) (fun _ _ _ => trivial)))) ?_; rintro eA wA ⟨vA, rfl, hgA, hsA, hvA⟩; rw [HX2.out] at hvA; subst hvA))
        clear e1 e2 e3 e4
        go_wp2
        go_ret
        exact ⟨_, rfl, grown_trans hg0 (grown_trans hg hgA), false, rfl, by simp only [Bool.false_eq_true, false_iff]; exact HX.out⟩
    · have hie : i = L.length := by omega
      subst hie
      go_wp2
      go_ret
      exact ⟨_, rfl, grown_trans hg0 hg, true, rfl, by
        simp only [true_iff]
        intro x hx
        obtain ⟨l, hl, rfl⟩ := List.getElem_of_mem hx
        rw [← gt_eq L l hl]; exact hV.out l hl⟩

set_option maxRecDepth 100000 in
set_option maxHeartbeats 2000000 in
theorem l01Same2_ok (v1 v2 : Value) (l1 l2 : List (List Int)) (w : World) (S1 S2 : Nat → Prop) (h1 : Rows2 S1 w v1 l1) (h2 : Rows2 S2 w v2 l2) :
    Calls Tryz.prog 109 #[v1, v2] w (Ret w fun _ v => v = .bool (eqB l1 l2)) := by
  obtain ⟨a, cap, rfl, _, _⟩ := Sl.shape h1
  obtain ⟨a2, cap2, rfl, _, _⟩ := Sl.shape h2
  by_cases hl : l1.length = l2.length
  · have hd : ((l1.length : Int) != (l2.length : Int)) = false := by simp [hl]
    have hl1 : l1.length ≤ l2.length ∧ l2.length ≤ l1.length := by omega
    have HL := Lib.hid hl; clear hl
    go_enter Tryz.func109, Tryz.ntmps109
    go_wp2
    go_loopw [5] (fun i wr => ∃ k : Nat, i = .int .i64 k ∧ k ≤ l1.length ∧ Ext w wr ∧ ∀ i, i < k → gt l1 i = gt l2 i) (fun i _ => l1.length - (intOf i).toNat)
    case atStart => exact ⟨0, rfl, by omega, Ext.refl _, fun i hi => by omega⟩
    case round =>
      obtain ⟨k, rfl, hk, hg, hz⟩ := hrel
      have HZ := Lib.hid hz; clear hz
      by_cases hlt : k < l1.length
      · obtain ⟨b, off, x1, c1, rfl, _, _, hc, hi1⟩ := Rows2.at (Rows2.ext h1 hg) k hlt
        obtain ⟨b2, off2, x2, c2, rfl, _, _, hc2, hi2⟩ := Rows2.at (Rows2.ext h2 hg) k (by omega)
        have e1 : ∀ w', Ext wr w' → w'.cell? ⟨b, off + k, none⟩ = some (.slice x1 (gt l1 k).length c1) := fun w' h => h.cell hc (by simp)
        have e2 : ∀ w', Ext wr w' → w'.cell? ⟨b2, off2 + k, none⟩ = some (.slice x2 (gt l2 k).length c2) := fun w' h => h.cell hc2 (by simp)
        clear hc hc2
        have hlt2 : k < l2.length := by omega
        go_wp2
        cases hx : eqB (gt l1 k) (gt l2 k) with
        | true =>
          have hx2 := Lib.hid hx
          go_region_held3 (fun w' => Ext wr w') (first | exact grown_drew _ _ | assumption)
            (first
              | (go_at_call 174; refine Calls.mono (Calls.rel (w0 := wr) (by assumption) (l01Same_ok _ _ _ _ _ Any Any (Ints.sub (Ints.ext hi1 (by assumption)) (fun _ _ _ => trivial)) (Ints.sub (Ints.ext hi2 (by assumption)) (fun _ _ _ => trivial)))) ?_; rintro eA wA ⟨vA, rfl, hgA, hsA, rfl⟩))
          clear e1 e2
          go_wp2
          go_roundw
          case rel => exact ⟨k + 1, by go_num, by omega, grown_trans hg hgA, fun i hi => by
            rcases Nat.lt_or_ge i k with h1 | h1
            · exact HZ.out i h1
            · have : i = k := by omega
              rw [this]; exact eqB_true.1 hx2.out⟩
          case measure => simp [intOf]; omega
        | false =>
          have hx2 := Lib.hid hx
          go_region_held3 (fun w' => Ext wr w') (first | exact grown_drew _ _ | assumption)
            (first
              | (go_at_call 174; refine Calls.mono (Calls.rel (w0 := wr) (by assumption) (l01Same_ok _ _ _ _ _ Any Any (Ints.sub (Ints.ext hi1 (by assumption)) (fun _ _ _ => trivial)) (Ints.sub (Ints.ext hi2 (by assumption)) (fun _ _ _ => trivial)))) ?_; rintro eA wA ⟨vA, rfl, hgA, hsA, rfl⟩))
          clear e1 e2
          go_wp2
          go_ret
          exact ⟨_, rfl, grown_trans hg hgA, by rw [eqB_false_at (hx := eqB_false.1 hx2.out)]; rfl⟩
      · go_wp2
        go_ret
        exact ⟨_, rfl, hg, by rw [eqB_true.2 (ext_gt HL.out (fun i hi => HZ.out i (by omega)))]; rfl⟩
  · have hd : ((l1.length : Int) != (l2.length : Int)) = true := by simp; omega
    have HL := Lib.hid hl; clear hl
    go_enter Tryz.func109, Tryz.ntmps109
    go_wp2
    go_ret
    exact ⟨_, rfl, Ext.refl _, by rw [eqB_false.2 (fun e => HL.out (by rw [e]))]; rfl⟩

theorem subB_iff {P : Pr} (G : Grp P) (u : List (List Int)) : SubB P u ↔ u.length ≤ P.orders.length ∧ (∀ x ∈ u, Vec P.orders x) ∧ cseq P (genP P (fun x => x ∈ u)) = u :=
  ⟨fun h => ⟨G.sub_len h, h.1, h.2.symm⟩, fun h => ⟨h.2.1, h.2.2.symm⟩⟩

set_option maxRecDepth 100000 in
set_option maxHeartbeats 4000000 in
theorem l12Is_ok (P : Pr) (G : Grp P) (w : World) (pv uv : Value) (U : List (List Int)) (Sp Su : Nat → Prop) (hpv : PresV Sp w pv P) (hu : Rows2 Su w uv U) :
    Calls Tryz.prog 59 #[pv, uv] w (Ret w fun _ v => ∃ r : Bool, v = .bool r ∧ (r = true ↔ SubB P U)) := by
  have hP := G.v
  have hn6 := hP.n6
  obtain ⟨vo, vp, vc, rfl, h3⟩ := hpv
  have hp0 := PresP.box h3 31
  have hg0 : Ext w (w.alloc (.cells #[vo, vp, vc] 31)) := World.grownBy_alloc _ _ _
  obtain ⟨vo6, vp6, vc6, _, _, hc0, hc1, hc2, h36⟩ := hp0.at
  simp only [Nat.zero_add] at hc1 hc2
  obtain ⟨ao, capo, rfl, _, _⟩ := h36.o.shape
  have hu0 := Rows2.ext hu hg0
  obtain ⟨au, capu, rfl, _, _⟩ := Sl.shape hu
  clear hp0 hu
  have hiff := subB_iff G U
  go_enter Tryz.func59, Tryz.ntmps59
  by_cases hl : U.length ≤ P.orders.length
  · have hle : (U.length : Int) ≤ P.orders.length := by omega
    have hE := l10Elements_ok P hP (w.alloc (.cells #[vo, vp, vc] 31)) _ _ U Any Su ⟨_, _, _, rfl, h36⟩ hu0
    go_wp2_with fail
    generalize hw0 : w.alloc (.cells #[vo, vp, vc] 31) = w0 at *
    clear hw0
    refine Calls.mono hE ?_
    rintro e1 w1 ⟨v1, rfl, hg1, r1, rfl, hr1⟩
    clear hE
    have hb0 := hg1.cell hc0 (by simp)
    have hb1 := hg1.cell hc1 (by simp)
    have hb2 := hg1.cell hc2 (by simp)
    cases r1 with
    | false =>
      have hno : ¬ SubB P U := fun h => by have := hr1.2 (hiff.1 h).2.1; cases this
      have HN := Lib.hid hno; clear hno hiff hr1 hc0 hc1 hc2
      go_wp2
      go_ret
      exact ⟨_, rfl, grown_trans hg0 hg1, false, rfl, by simp only [Bool.false_eq_true, false_iff]; exact HN.out⟩
    | true =>
      have hV := hr1.1 rfl
      have HI := Lib.hid (And.intro hiff hV); clear hiff hV hr1 hc0 hc1 hc2
      go_wp2_with fail
      clear hb0 hb1 hb2
      refine Calls.mono (l12Close_ok P G w1 _ _ U Any Su ⟨_, _, _, rfl, Pres3.ext h36 hg1⟩ (Rows2.ext hu0 hg1) HI.out.2 (by omega)) ?_
      rintro e2 w2 ⟨v2, rfl, hg2, hR2⟩
      obtain ⟨a2, cap2, rfl, _, _⟩ := Sl.shape hR2
      go_wp2_with fail
      refine Calls.mono (l01Same2_ok _ _ _ U w2 _ _ hR2 (Rows2.ext (Rows2.ext hu0 hg1) hg2)) ?_
      rintro e3 w3 ⟨v3, rfl, hg3, rfl⟩
      go_wp2
      go_ret
      exact ⟨_, rfl, grown_trans hg0 (grown_trans hg1 (grown_trans hg2 hg3)), _, rfl, by
        rw [eqB_true, HI.out.1]
        exact ⟨fun h => ⟨hl, HI.out.2, h⟩, fun h => h.2.2⟩⟩
  · have hle : ¬ (U.length : Int) ≤ P.orders.length := by omega
    have hno : ¬ SubB P U := fun h => hl (hiff.1 h).1
    have HN := Lib.hid hno; clear hno hiff hl
    go_wp2
    go_ret
    exact ⟨_, rfl, hg0, .inl ⟨rfl, HN.out⟩⟩

end Go.Proofs.YtdklekdpdbjfiaaGreat

/- Small things of the subgroup statements. -/
namespace Go.Proofs.YtdklekdpdbjfiaaGreat
open Go.RowKit

theorem elemsIn_len {P : Pr} (hP : Valid P) (H : List Int → Prop) : (elemsIn P H).length ≤ 729 := by
  have h1 := elemsTo_len P H (ordP P).toNat
  rw [elemsTo_all] at h1
  have h2 : ordP P ≤ 729 := hP.le729
  omega

end Go.Proofs.YtdklekdpdbjfiaaGreat

/- impl.meet, impl.productSize. -/
namespace Go.Proofs.YtdklekdpdbjfiaaGreat
open Go.RowKit

/-- the members of the first k rows that lie in K -/
def inTo (E : List (List Int)) (K : List Int → Prop) (k : Nat) (x : List Int) : Prop := x ∈ E.take k ∧ K x

theorem inTo_succ {E : List (List Int)} {K : List Int → Prop} {k : Nat} (hk : k < E.length) (hK : K (gt E k)) : (fun x => inTo E K k x ∨ x ∈ [gt E k]) = inTo E K (k + 1) := by
  funext x
  unfold inTo
  rw [take_succ_gt E k hk]
  simp only [List.mem_append, List.mem_singleton, eq_iff_iff]
  constructor
  · rintro (⟨h1, h2⟩ | h)
    · exact ⟨.inl h1, h2⟩
    · exact ⟨.inr h, by rw [h]; exact hK⟩
  · rintro ⟨h | h, h2⟩
    · exact .inl ⟨h, h2⟩
    · exact .inr h
theorem inTo_skip {E : List (List Int)} {K : List Int → Prop} {k : Nat} (hk : k < E.length) (hK : ¬ K (gt E k)) : inTo E K (k + 1) = inTo E K k := by
  funext x
  unfold inTo
  rw [take_succ_gt E k hk]
  simp only [List.mem_append, List.mem_singleton, eq_iff_iff]
  constructor
  · rintro ⟨h | h, h2⟩
    · exact ⟨h, h2⟩
    · exact absurd (by rw [← h]; exact h2) hK
  · rintro ⟨h, h2⟩
    exact ⟨.inl h, h2⟩
theorem inTo_zero (E : List (List Int)) (K : List Int → Prop) : inTo E K 0 = fun _ => False := by
  funext x; unfold inTo; simp
theorem inTo_all {P : Pr} {H K : List Int → Prop} (hP : Valid P) (S : Sub P H) (E : List (List Int)) (hE : E = elemsIn P H) : inTo E K E.length = fun x => H x ∧ K x := by
  funext x
  unfold inTo
  rw [List.take_length, hE, elemsIn_mem hP S.vec]

theorem rows2One {S S' : Nat → Prop} {w : World} {u : Value} {X : List Int} (h : Ints S w u X) (hS : ∀ k, S k → k < w.heap.size → S' k) (hn : S' w.heap.size) : Rows2 S' (w.alloc (.cells #[u] 22)) (.slice (some ⟨w.heap.size, 0, none⟩) 1 1) [X] := by
  refine ⟨_, 1, rfl, ⟨by simp, by simp, fun h => by cases h⟩, fun i hi => ?_⟩
  have : i = 0 := by simpa using hi
  subst this
  have hg : Ext w (w.alloc (.cells #[u] 22)) := World.grownBy_alloc _ _ _
  refine ⟨w.heap.size, 0, u, rfl, hn, by simp, by rw [World.cell?_alloc_at _ _ _ _ rfl]; rfl, ?_⟩
  exact Ints.mono h (fun k hk hlt => ⟨hS k hk hlt, Nat.lt_of_lt_of_le hlt hg.size, hg.block k hlt (by simp)⟩)

set_option maxRecDepth 100000 in
set_option maxHeartbeats 8000000 in
theorem meet_ok (P : Pr) (G : Grp P) (w : World) (p uv vv : Value) (H K : List Int → Prop) (Sp Su Sv : Nat → Prop) (S : Sub P H) (R : Sub P K) (hp : PresP Sp w p P) (hu : Rows2 Su w uv (cseq P H)) (hv : Rows2 Sv w vv (cseq P K)) :
    Calls Tryz.prog 97 #[p, uv, vv] w (Ret w fun w' v => RowsO w.heap.size w' v (cseq P (fun x => H x ∧ K x))) := by
  have hP := G.v
  have hn6 := hP.n6
  obtain ⟨pb, po, rfl⟩ := hp.shape
  have hlH := G.cseq_len S
  have hlK := G.cseq_len R
  have hsH := (G.seq_facts S).1
  have hsK := (G.seq_facts R).1
  obtain ⟨au, capu, rfl, _, _⟩ := Sl.shape hu
  obtain ⟨av, capv, rfl, _, _⟩ := Sl.shape hv
  have hsel : ∃ (H1 K1 : List Int → Prop) (u1 v1 : Value), Sub P H1 ∧ Sub P K1 ∧ Rows2 Any w u1 (cseq P H1) ∧ Rows2 Any w v1 (cseq P K1) ∧ (fun x => H1 x ∧ K1 x) = (fun x => H x ∧ K x) ∧
      ((prodU P (cseq P K) (cseq P K).length < prodU P (cseq P H) (cseq P H).length ∧ u1 = .slice av (cseq P K).length capv ∧ v1 = .slice au (cseq P H).length capu) ∨
       (¬ prodU P (cseq P K) (cseq P K).length < prodU P (cseq P H) (cseq P H).length ∧ u1 = .slice au (cseq P H).length capu ∧ v1 = .slice av (cseq P K).length capv)) := by
    have hu' := Rows2.sub hu (S' := Any) (fun _ _ _ => trivial)
    have hv' := Rows2.sub hv (S' := Any) (fun _ _ _ => trivial)
    by_cases h : prodU P (cseq P K) (cseq P K).length < prodU P (cseq P H) (cseq P H).length
    · exact ⟨K, H, _, _, R, S, hv', hu', funext fun x => propext ⟨fun h => ⟨h.2, h.1⟩, fun h => ⟨h.2, h.1⟩⟩, .inl ⟨h, rfl, rfl⟩⟩
    · exact ⟨H, K, _, _, S, R, hu', hv', rfl, .inr ⟨h, rfl, rfl⟩⟩
  obtain ⟨H1, K1, u1, v1, S1, R1, hu1, hv1, hHK, hsel⟩ := hsel
  have hlH1 := G.cseq_len S1
  have hE := G.els_sorted S1
  have hs1 := (G.seq_facts S1).1
  have HX := Lib.hid (And.intro hsH (And.intro hsK (And.intro hHK (And.intro hE hs1)))); clear hsH hsK hHK hE hs1
  obtain ⟨E, hEe⟩ : ∃ E, E = elemsIn P H1 := ⟨_, rfl⟩
  have hEl : E.length ≤ 729 := by rw [hEe]; exact elemsIn_len hP H1
  have HE := Lib.hid hEe; clear hEe
  go_enter Tryz.func97, Tryz.ntmps97
  go_wp2_with fail
  refine Calls.mono (sizeOf_ok P hP w _ _ (cseq P H) Sp Su hp hu HX.out.1 (by omega)) ?_
  rintro eA wA ⟨vA, rfl, hgA, rfl⟩
  go_wp2_with fail
  refine Calls.mono (sizeOf_ok P hP wA _ _ (cseq P K) Sp Sv (hp.ext hgA) (Rows2.ext hv hgA) HX.out.2.1 (by omega)) ?_
  rintro eB wB ⟨vB, rfl, hgB, rfl⟩
  have hgw := grown_trans hgA hgB
  obtain ⟨m1, hm1⟩ : ∃ m1, m1 = prodU P (cseq P H) (cseq P H).length := ⟨_, rfl⟩
  obtain ⟨m2, hm2⟩ : ∃ m2, m2 = prodU P (cseq P K) (cseq P K).length := ⟨_, rfl⟩
  rw [← hm1, ← hm2] at hsel ⊢
  clear hm1 hm2 hu hv
  rcases hsel with ⟨hc, rfl, rfl⟩ | ⟨hc, rfl, rfl⟩
  all_goals
    go_wp2_with fail
    clear hc
    refine Calls.mono (newSequence_ok P wB _ Sp (fun _ => False) (hp.ext hgw) hn6) ?_
    rintro e1 w1 ⟨v1, rfl, hg1, sb, gb, rfl, hs⟩
    have hgb := hs.tab.lt
    have hsb := hs.sB
    have hsl := hs.slt
    have hgw1 := grown_trans hgw hg1
    go_wp2_with fail
    refine Calls.mono (elementsOf_ok P G w1 _ _ (cseq P H1) Sp Any (hp.ext hgw1) (Rows2.ext hu1 hgw1) HX.out.2.2.2.2 (by omega)) ?_
    rintro e2 w2 ⟨v2, rfl, hg2, hO⟩
    rw [HX.out.2.2.2.1, ← HE.out] at hO
    have hgw2 := grown_trans hgw1 hg2
    have hER := RowsD.rows (SlO.toD hO (by omega))
    obtain ⟨ae, cape, hve, _, _⟩ := Sl.shape hER
    subst hve
    have hER2 : Rows2 (fun j => w1.heap.size ≤ j) w2 (.slice ae E.length cape) E := hER
    have hs2 := hs.ext hg2
    have hwB := hgw.size
    clear hO hER hs
    go_wp2
    go_loopw [25] (fun iv wr => ∃ (k : Nat) (b : List (List Int)), iv = .int .i64 k ∧ k ≤ E.length ∧ Ext w wr ∧ SeqAt wB.heap.size (fun _ => False) wr sb gb (.pointer (some ⟨pb, po, none⟩)) P.orders.length b ∧ Rows2 (fun j => w1.heap.size ≤ j) wr (.slice ae E.length cape) E ∧ Hid (Ind P (genP P (inTo E K1 k)) (gt b))) (fun iv _ => E.length - (intOf iv).toNat)
    case atStart => exact ⟨0, _, rfl, by omega, hgw2, hs2, hER2, Lib.hid (by rw [inTo_zero, G.genP_none]; exact G.ind_one)⟩
    case round =>
      clear hs2 hER2
      obtain ⟨k, b, rfl, hk, hg, hs, hER, hI⟩ := hrel
      by_cases hlt : k < E.length
      · have hlt' : (k : Int) < E.length := by omega
        obtain ⟨bb, off, a2, cap2, rfl, _, _, hc, hr⟩ := Rows2.at hER k hlt
        have hXV : Vec P.orders (gt E k) := S1.vec _ ((elemsIn_mem hP S1.vec _).1 (by rw [← HE.out]; exact gtMem hlt))
        have HXV := Lib.hid hXV; clear hXV
        go_wp2_with fail
        clear hc
        refine Calls.mono (isMember_ok P G wr _ _ _ K1 (gt E k) Sp Any _ R1 (hp.ext hg) (Rows2.ext hv1 hg) hr HXV.out) ?_
        rintro e3 w3 ⟨v3, rfl, hg3, r, rfl, hr3⟩
        have hg03 := grown_trans hg hg3
        cases r with
        | false =>
          have hI2 : Hid (Ind P (genP P (inTo E K1 (k + 1))) (gt b)) := Lib.hid (by rw [inTo_skip hlt (fun h => by have := hr3.2 h; cases this)]; exact hI.out)
          have hs3 := hs.ext hg3
          have hER3 := Rows2.ext hER hg3
          clear hr3
          go_wp2
          go_roundw
          case rel => exact ⟨k + 1, b, by go_num, by omega, hg03, hs3, hER3, hI2⟩
          case measure => simp [intOf]; omega
        | true =>
          have hin := inTo_succ hlt (hr3.1 rfl)
          have HIN := Lib.hid hin; clear hin hr3
          have hga : Ext w3 (w3.alloc (.cells #[.slice a2 (gt E k).length cap2] 22)) := World.grownBy_alloc _ _ _
          have hg3s := hg3.size
          have hws := hs.slt
          have hwt := hs.tab.lt
          have hlit := rows2One (S' := fun j => ¬ (j = gb ∨ j = sb)) (Ints.ext hr hg3) (fun j hj hlt => by omega) (by omega)
          have hgwa := grown_trans hg03 hga
          have hadd := add_ok P G (w3.alloc (.cells #[.slice a2 (gt E k).length cap2] 22)) sb gb wB.heap.size _ _ [gt E k] b _ (hp.mono (fun j _ hj => ⟨by omega, Nat.lt_of_lt_of_le hj hgwa.size, hgwa.block j hj (by simp)⟩)) ((hs.ext hg3).ext hga) hI.out (fun x hx => by rw [List.mem_singleton.1 hx]; exact HXV.out) hlit (by simp)
          have HA := Lib.hid hadd; clear hadd
          go_wp2_with fail
          refine Calls.mono HA.out ?_
          rintro e4 w4 ⟨b4, g4, rfl, hg4, hs4, hA4, _, _⟩
          rw [genP_or, HIN.out] at hA4
          have hgw4 : Ext w w4 := grown_own hgwa hg4 (fun j hj hlt => by cases hj; omega)
          have hER4 : Rows2 (fun j => w1.heap.size ≤ j) w4 (.slice (some ⟨bb, off, none⟩) E.length cape) E := Rows2.mono hER (fun j hj hlt => ⟨hj, Nat.lt_of_lt_of_le hlt (Nat.le_trans hg3.size (Nat.le_trans hga.size hg4.size)), (hg4.block j (Nat.lt_of_lt_of_le hlt (Nat.le_trans hg3.size hga.size)) (fun e => by cases e; omega)).trans ((hga.block j (Nat.lt_of_lt_of_le hlt hg3.size) (by simp)).trans (hg3.block j hlt (by simp)))⟩)
          have HA4 := Lib.hid hA4; clear hA4 HA hlit
          go_wp2
          go_roundw
          case rel => exact ⟨k + 1, b4, by go_num, by omega, hgw4, hs4, hER4, HA4⟩
          case measure => simp [intOf]; omega
      · have hke : k = E.length := by omega
        have hI2 : Hid (Ind P (fun x => H x ∧ K x) (gt b)) := Lib.hid (by
          have h := hI.out
          rw [hke, inTo_all hP S1 E HE.out, genP_self (S1.and R1), HX.out.2.2.1] at h
          exact h)
        subst hke
        clear hI
        go_wp2_with fail
        refine Calls.mono (canonical_ok P G wr sb gb wB.heap.size _ b _ _ _ (hp.ext hg) hs hI2.out) ?_
        rintro e5 w5 ⟨v5, rfl, hg5, hO5⟩
        go_wp2
        go_ret
        exact ⟨_, rfl, grown_trans hg hg5, hO5.weak hg.size⟩

end Go.Proofs.YtdklekdpdbjfiaaGreat

/- impl.productSize: the size of a product set. -/
namespace Go.Proofs.YtdklekdpdbjfiaaGreat
open Go.RowKit

/-- the size of the product set of two subgroups -/
noncomputable def prodSz (P : Pr) (H K : List Int → Prop) : Int :=
  prodU P (cseq P H) (cseq P H).length * prodU P (cseq P K) (cseq P K).length / prodU P (cseq P (fun x => H x ∧ K x)) (cseq P (fun x => H x ∧ K x)).length

set_option maxRecDepth 100000 in
set_option maxHeartbeats 4000000 in
theorem productSize_ok (P : Pr) (G : Grp P) (w : World) (p uv vv : Value) (H K : List Int → Prop) (Sp Su Sv : Nat → Prop) (S : Sub P H) (R : Sub P K) (hp : PresP Sp w p P) (hu : Rows2 Su w uv (cseq P H)) (hv : Rows2 Sv w vv (cseq P K)) :
    Calls Tryz.prog 71 #[p, uv, vv] w (Ret w fun _ v => v = .int .i64 (prodSz P H K)) := by
  have hP := G.v
  have hn6 := hP.n6
  obtain ⟨pb, po, rfl⟩ := hp.shape
  have hlH := G.cseq_len S
  have hlK := G.cseq_len R
  have hlM := G.cseq_len (S.and R)
  have hsH := (G.seq_facts S).1
  have hsK := (G.seq_facts R).1
  have hsM := (G.seq_facts (S.and R)).1
  have hbH := prodU_729 hP hsH _ (Nat.le_refl _)
  have hbK := prodU_729 hP hsK _ (Nat.le_refl _)
  have hbM := prodU_729 hP hsM _ (Nat.le_refl _)
  have hE : prodSz P H K = prodU P (cseq P H) (cseq P H).length * prodU P (cseq P K) (cseq P K).length / prodU P (cseq P (fun x => H x ∧ K x)) (cseq P (fun x => H x ∧ K x)).length := rfl
  obtain ⟨au, capu, rfl, _, _⟩ := Sl.shape hu
  obtain ⟨av, capv, rfl, _, _⟩ := Sl.shape hv
  obtain ⟨a, ha⟩ : ∃ a, a = prodU P (cseq P H) (cseq P H).length := ⟨_, rfl⟩
  obtain ⟨b, hb⟩ : ∃ b, b = prodU P (cseq P K) (cseq P K).length := ⟨_, rfl⟩
  obtain ⟨c, hc⟩ : ∃ c, c = prodU P (cseq P (fun x => H x ∧ K x)) (cseq P (fun x => H x ∧ K x)).length := ⟨_, rfl⟩
  rw [← ha] at hbH hE
  rw [← hb] at hbK hE
  rw [← hc] at hbM hE
  have hab0 : 0 ≤ a * b := Int.mul_nonneg (by omega) (by omega)
  have hab1 : a * b ≤ 729 * 729 := Int.mul_le_mul (by omega) (by omega) (by omega) (by omega)
  have hq0 : 0 ≤ a * b / c := Int.ediv_nonneg hab0 (by omega)
  have hq1 : a * b / c ≤ a * b := Int.ediv_le_self _ hab0
  have e1 : IntKind.i64.wrap (a * b) = a * b := IntWalk.i64_in _ (by omega)
  have e2 : (a * b).tdiv c = a * b / c := Int.tdiv_eq_ediv_of_nonneg hab0
  have e3 : IntKind.i64.wrap (a * b / c) = a * b / c := IntWalk.i64_in _ (by omega)
  have hc0 : (c == 0) = false := by simp; omega
  have HX := Lib.hid (And.intro hsH (And.intro hsK (And.intro hsM (And.intro hE (And.intro ha (And.intro hb hc)))))); clear hsH hsK hsM hE ha hb hc
  go_enter Tryz.func71, Tryz.ntmps71
  go_wp2_with fail
  refine Calls.mono (sizeOf_ok P hP w _ _ (cseq P H) Sp Su hp hu HX.out.1 (by omega)) ?_
  rintro eA wA ⟨vA, rfl, hgA, rfl⟩
  rw [← HX.out.2.2.2.2.1]
  go_wp2_with fail
  refine Calls.mono (sizeOf_ok P hP wA _ _ (cseq P K) Sp Sv (hp.ext hgA) (Rows2.ext hv hgA) HX.out.2.1 (by omega)) ?_
  rintro eB wB ⟨vB, rfl, hgB, rfl⟩
  rw [← HX.out.2.2.2.2.2.1]
  have hgw := grown_trans hgA hgB
  go_wp2_with fail
  refine Calls.mono (meet_ok P G wB _ _ _ H K Sp Su Sv S R (hp.ext hgw) (Rows2.ext hu hgw) (Rows2.ext hv hgw)) ?_
  rintro eC wC ⟨vC, rfl, hgC, hOC⟩
  have hgwC := grown_trans hgw hgC
  have hMR := RowsD.rows (SlO.toD hOC (by omega))
  obtain ⟨am, capm, hvm, _, _⟩ := Sl.shape hMR
  subst hvm
  go_wp2_with fail
  refine Calls.mono (sizeOf_ok P hP wC _ _ (cseq P (fun x => H x ∧ K x)) Sp _ (hp.ext hgwC) hMR HX.out.2.2.1 (by omega)) ?_
  rintro eD wD ⟨vD, rfl, hgD, rfl⟩
  rw [← HX.out.2.2.2.2.2.2]
  go_wp2
  go_ret
  exact ⟨_, rfl, grown_trans hgwC hgD, by rw [HX.out.2.2.2.1]; rfl⟩

end Go.Proofs.YtdklekdpdbjfiaaGreat

/- Plain: the value of IsSylowSystem: subgroups of coprime orders meet in one. -/
namespace Go.Proofs.YtdklekdpdbjfiaaGreat
open Go.RowKit

def oU (P : Pr) (u : List (List Int)) : Int := prodU P u u.length
noncomputable def joU (P : Pr) (u v : List (List Int)) : Int := oU P (cseq P (genP P (fun x => x ∈ u ++ v)))
theorem joU_comm (P : Pr) (u v : List (List Int)) : joU P u v = joU P v u := by
  unfold joU
  have e : (fun x => x ∈ u ++ v) = (fun x => x ∈ v ++ u) := funext fun x => propext (by rw [List.mem_append, List.mem_append]; exact Or.comm)
  rw [e]
def isyP (P : Pr) (us : List (List (List Int))) : Prop :=
  us.length = (dvs (ordP P)).length ∧ (∀ i, i < us.length → oU P (gt us i) = hallO P [gt (dvs (ordP P)) i]) ∧ (∀ i j, j < i → i < us.length → joU P (gt us j) (gt us i) = oU P (gt us j) * oU P (gt us i))
open Classical in
noncomputable def isyC (P : Pr) (us : List (List (List Int))) : Int := if rconsB P = true ∧ ∀ u ∈ us, SubB P u then 0 else 1
open Classical in
noncomputable def isyV (P : Pr) (us : List (List (List Int))) : Bool := if (rconsB P = true ∧ ∀ u ∈ us, SubB P u) ∧ isyP P us then true else false
theorem isyC_yes {P : Pr} {us : List (List (List Int))} (h : rconsB P = true ∧ ∀ u ∈ us, SubB P u) : isyC P us = 0 := if_pos h
theorem isyC_no {P : Pr} {us : List (List (List Int))} (h : ¬ (rconsB P = true ∧ ∀ u ∈ us, SubB P u)) : isyC P us = 1 := if_neg h
theorem isyV_yes {P : Pr} {us : List (List (List Int))} (h : rconsB P = true ∧ ∀ u ∈ us, SubB P u) (h2 : isyP P us) : isyV P us = true := if_pos ⟨h, h2⟩
theorem isyV_no {P : Pr} {us : List (List (List Int))} (h2 : ¬ ((rconsB P = true ∧ ∀ u ∈ us, SubB P u) ∧ isyP P us)) : isyV P us = false := if_neg h2

section
variable {P : Pr}
theorem prd_none : ∀ f d, prd P (fun _ => False) f d = 1
  | 0, _ => rfl
  | f + 1, d => by unfold prd; rw [if_neg (fun h => h), prd_none f (d + 1)]
theorem isy_prod (G : Grp P) {u v : List (List Int)} (hu : SubB P u) (hv : SubB P v) {p q : Int} (h1 : oU P u = hallO P [p]) (h2 : oU P v = hallO P [q]) (hne : p ≠ q) : prodSz P (gP P u) (gP P v) = oU P u * oU P v := by
  have S := G.subB hu
  have R := G.subB hv
  have SR := S.and R
  have k1 := (hall_iff G hu [p]).1 h1
  have k2 := (hall_iff G hv [q]).1 h2
  have hm : prodU P (cseq P (fun x => gP P u x ∧ gP P v x)) (cseq P (fun x => gP P u x ∧ gP P v x)).length = 1 := by
    rw [order_cd (G := G) SR, cd_eq (toE_sg SR)]
    have e : prd P (pv (toE G (fun x => gP P u x ∧ gP P v x))) P.orders.length 0 = prd P (fun _ => False) P.orders.length 0 := prd_congr _ _ (fun d _ _ => ⟨fun h => by
      have a1 : pvU G u d := pv_mono (fun x hx => hx.1) h
      have a2 : pvU G v d := pv_mono (fun x hx => hx.2) h
      have b1 := ((k1 d).1 a1).2
      have b2 := ((k2 d).1 a2).2
      simp only [List.mem_singleton] at b1 b2
      exact hne (b1.symm.trans b2), fun h => h.elim⟩)
    rw [e, prd_none]; rfl
  unfold prodSz
  rw [hm]
  have e1 : cseq P (gP P u) = u := hu.2.symm
  have e2 : cseq P (gP P v) = v := hv.2.symm
  rw [e1, e2, Int.ediv_one]
  rfl
end

end Go.Proofs.YtdklekdpdbjfiaaGreat

/- slices.Grow at rows, laid from the shelf. -/
namespace Go.Proofs.YtdklekdpdbjfiaaGreat
open Go.Proofs Go.Shelf Go.RowKit Go.Lib
def Tryz.growRows_ren : Go.Shelf.Ren := ⟨fun | 4 => 125 | n => n, fun | 22 => 23 | 25 => 22 | 3 => 3 | 4 => 4 | 9 => 9 | 20 => 20 | 0 => 0 | n => n, fun | n => n⟩
theorem Tryz.growRows : Go.Proofs.Lays8.n4 Tryz.prog Tryz.growRows_ren := {
  mixed := by kernel_rfl
  f4 := ⟨Tryz.f125.name, by decide, Tryz.func125.trans (congrArg some (by kernel_rfl))⟩
  t0 := Tryz.underlying0
  a0 := Tryz.isAgg0
  z0 := Tryz.sizeOf0
  v0 := Tryz.zeroValue0
  t3 := Tryz.underlying3
  a3 := Tryz.isAgg3
  z3 := Tryz.sizeOf3
  v3 := Tryz.zeroValue3
  t4 := Tryz.underlying4
  a4 := Tryz.isAgg4
  z4 := Tryz.sizeOf4
  v4 := Tryz.zeroValue4
  t9 := Tryz.underlying9
  a9 := Tryz.isAgg9
  z9 := Tryz.sizeOf9
  v9 := Tryz.zeroValue9
  t20 := Tryz.underlying20
  a20 := Tryz.isAgg20
  z20 := Tryz.sizeOf20
  v20 := Tryz.zeroValue20
  t22 := Tryz.underlying23
  a22 := Tryz.isAgg23
  z22 := Tryz.sizeOf23
  v22 := Tryz.zeroValue23 }

theorem growRows_ok (n : Nat) (hn : n ≤ 1000000) (w : World) : Calls Tryz.prog 125 #[.slice none 0 0, .int .i64 n] w (Ret w fun w' v => OwnV w.heap.size 22 w' v []) := by
  rcases Nat.eq_zero_or_pos n with rfl | h0
  · have h := Any8.slices_Grow_room Tryz.growRows none 0 0 0 w (by omega) (by omega) (by omega) (by omega)
    change Calls Tryz.prog 125 _ _ _ at h
    refine h.mono ?_
    rintro e w' ⟨rfl, rfl⟩
    exact ⟨_, rfl, Ext.refl _, World.ownsRow_nil _ _ _ _⟩
  · obtain ⟨i0, hi, hz0, hz1, hz2⟩ := info_parts Tryz.infoRow
    have hmax : 0 + n ≤ maxLen := by unfold maxLen; omega
    have h := Any8.slices_Grow_grow Tryz.growRows i0 (.slice none 0 0) hi hz0 (by rw [hz1]; decide) none 0 0 n [] w (by omega) (by omega) (by rw [hz2]; omega) (by omega) (by simp) (fun _ => rfl) (fun a ha => by cases ha)
    change Calls Tryz.prog 125 _ _ _ at h
    refine h.mono ?_
    rintro e w' ⟨rfl, rfl⟩
    have hge := grownCap_ge w (0 + n) 0 22
    have hle := grownCap_le_maxLen w (0 + n) 0 22 hmax
    refine ⟨_, rfl, grown_trans (grown_drew w none) (World.grownBy_alloc _ _ _), rfl, .inr ⟨w.heap.size, _, _, rfl, Nat.le_refl _, Array.getElem?_push_size (xs := w.heap), Nat.zero_le _, hle, ?_, by simp⟩⟩
    simp only [Array.size_append, size_zeroCells, List.size_toArray, List.length_nil]
    have e1 : (Value.cells (.slice none 0 0)).size = 1 := rfl
    have hge2 : 0 + n ≤ grownCap w (0 + n) 0 22 := hge
    rw [e1]
    show 0 + (0 + n - 0) * 1 + (grownCap w (0 + n) 0 22 - (0 + n)) * 1 = grownCap w (0 + n) 0 22 * 1
    omega

end Go.Proofs.YtdklekdpdbjfiaaGreat

/- slices.Concat at rows: the rows of all lists, in order. -/
namespace Go.Proofs.YtdklekdpdbjfiaaGreat
open Go.RowKit

/-- the rows of the first k lists -/
def flatTo (us : List (List (List Int))) : Nat → List (List Int)
  | 0 => []
  | k + 1 => flatTo us k ++ gt us k

theorem flatTo_len (us : List (List (List Int))) (b : Nat) (h : ∀ u ∈ us, u.length ≤ b) (k : Nat) (hk : k ≤ us.length) : (flatTo us k).length ≤ b * k := by
  induction k with
  | zero => simp [flatTo]
  | succ k ih =>
    have h1 := ih (by omega)
    have h2 := h _ (gt_mem (l := us) (i := k) (by omega))
    simp only [flatTo, List.length_append, Nat.mul_succ]; omega

set_option maxRecDepth 100000 in
set_option maxHeartbeats 4000000 in
theorem concatRows_ok (w : World) (lv : Value) (us : List (List (List Int))) (Sr : Nat → Prop) (hl : Rows3 Sr w lv us) (hb : ∀ u ∈ us, u.length ≤ 1000) (hn : us.length ≤ 100) :
    Calls Tryz.prog 73 #[lv] w (Ret w fun w' v => Rows2 Any w' v (flatTo us us.length)) := by
  obtain ⟨al, capl, rfl, _, _⟩ := Sl.shape hl
  have hfl : ∀ k, k ≤ us.length → (flatTo us k).length ≤ 100000 := fun k hk => by have := flatTo_len us 1000 hb k hk; omega
  have HF := Lib.hid (And.intro hfl hb); clear hfl hb
  go_enter Tryz.func73, Tryz.ntmps73
  go_wp2
  go_loopw [3, 11] (fun sv iv wr => ∃ k : Nat, sv = .int .i64 ((flatTo us k).length : Nat) ∧ iv = .int .i64 k ∧ k ≤ us.length ∧ w = wr) (fun _ iv _ => us.length - (intOf iv).toNat)
  case atStart => exact ⟨0, rfl, rfl, by omega, rfl⟩
  case round =>
    obtain ⟨k, rfl, rfl, hk, rfl⟩ := hrel
    have hfk := HF.out.1 k hk
    by_cases hlt : k < us.length
    · have hlt' : (k : Int) < us.length := by omega
      obtain ⟨b, off, a2, cap2, rfl, _, _, hc, hr⟩ := Rows3.at hl k hlt
      have hfk2 := HF.out.1 (k + 1) hlt
      have hst : (flatTo us (k + 1)).length = (flatTo us k).length + (gt us k).length := by simp only [flatTo, List.length_append]
      obtain ⟨m, hm⟩ : ∃ m, m = (flatTo us k).length := ⟨_, rfl⟩
      obtain ⟨m2, hm2⟩ : ∃ m2, m2 = (gt us k).length := ⟨_, rfl⟩
      rw [← hm] at hfk hst ⊢
      rw [← hm2] at hc hr hst
      have hmm : m + m2 ≤ 100000 := by omega
      have hw : IntKind.i64.wrap ((m : Int) + (m2 : Int)) = ((m + m2 : Nat) : Int) := by rw [IntWalk.i64_in _ (by omega)]; omega
      have hnn : ¬ ((m + m2 : Nat) : Int) < 0 := by omega
      have HS := Lib.hid (And.intro hst (And.intro hm hm2)); clear hst hm hm2 hfk2
      go_wp2
      go_roundw
      case rel => exact ⟨k + 1, by rw [HS.out.1, Int.natCast_add], by go_num, by omega, trivial⟩
      case measure => simp [intOf]; omega
    · have hke : k = us.length := by omega
      subst hke
      obtain ⟨m, hm⟩ : ∃ m, m = (flatTo us us.length).length := ⟨_, rfl⟩
      rw [← hm] at hfk ⊢
      clear hm
      go_wp2_with fail
      refine Calls.mono (growRows_ok m (by omega) w) ?_
      rintro e1 w1 ⟨v1, rfl, hg1, hO1⟩
      go_wp2
      go_loopw [6, 27] (fun ov iv wr => ∃ (k : Nat) (v4 : Value) (vs : List Value), v4 = ov ∧ iv = .int .i64 k ∧ k ≤ us.length ∧ Ext w wr ∧ OwnV w.heap.size 22 wr v4 vs ∧ Hid (vs.length = (flatTo us k).length ∧ ∀ i, i < vs.length → Ints Any w (gt vs i) (gt (flatTo us k) i))) (fun _ iv _ => us.length - (intOf iv).toNat)
      case atStart => exact ⟨0, v1, [], rfl, rfl, by omega, hg1, hO1, Lib.hid ⟨rfl, fun i hi => by simp at hi⟩⟩
      case round =>
        clear hO1
        obtain ⟨k, v4, vs, rfl, rfl, hk, hg, hO, hV⟩ := hrel
        by_cases hlt : k < us.length
        · have hlt' : (k : Int) < us.length := by omega
          obtain ⟨b, off, a2, cap2, rfl, _, _, hc, hr⟩ := Rows3.at hl k hlt
          have hcr := hg.cell hc (by simp)
          obtain ⟨vs2, hvl2, hvs2⟩ := Sl.vals hr
          have hnil : a2 = none → cap2 = 0 := by
            obtain ⟨a', cap', hv, hl', _⟩ := hr
            cases hv; exact hl'.2.2
          have hlk := HF.out.2 _ (gt_mem hlt)
          have hfk := HF.out.1 k hk
          have hnews : ∀ j, j < (gt us k).length → ∃ b off, a2 = some ⟨b, off, none⟩ ∧ wr.cell? ⟨b, off + j, none⟩ = some (gt vs2 j) := fun j hj => by
            obtain ⟨⟨b, off, h1, h2⟩, _⟩ := hvs2 j hj
            exact ⟨b, off, h1, hg.cell h2 (by simp)⟩
          have hone : ∀ u, u ∈ vs2 → u.oneCell' = true := fun u hu => by
            obtain ⟨j, hj, rfl⟩ := List.getElem_of_mem hu
            rw [← gt_eq vs2 j hj]
            exact rdInts.one (hvs2 j (by omega)).2
          have hnew : Hid ((vs ++ vs2).length = (flatTo us (k + 1)).length ∧ ∀ i, i < (vs ++ vs2).length → Ints Any w (gt (vs ++ vs2) i) (gt (flatTo us (k + 1)) i)) := by
            refine Lib.hid ⟨by simp only [List.length_append, flatTo, hV.out.1, hvl2], fun i hi => ?_⟩
            simp only [flatTo]
            by_cases h : i < vs.length
            · rw [gt_append_left _ _ _ h, gt_append_left _ _ _ (by rw [← hV.out.1]; exact h)]
              exact hV.out.2 i h
            · have hi2 : i - vs.length < (gt us k).length := by simp only [List.length_append] at hi; omega
              have e1 : gt (vs ++ vs2) i = gt vs2 (i - vs.length) := by
                simp only [gt, List.getD_eq_getElem?_getD]
                rw [List.getElem?_append_right (by omega)]
              have e2 : gt (flatTo us k ++ gt us k) i = gt (gt us k) (i - vs.length) := by
                rw [hV.out.1]
                simp only [gt, List.getD_eq_getElem?_getD]
                rw [List.getElem?_append_right (by rw [← hV.out.1]; omega)]
              rw [e1, e2]
              exact Ints.sub (hvs2 _ hi2).2 (fun _ _ _ => trivial)
          have hlen : vs.length + (gt us k).length ≤ 2147483648 := by rw [hV.out.1]; omega
          have HN := Lib.hid (And.intro hnews (And.intro hone (And.intro hvl2 (And.intro hnil hlen)))); clear hnews hone hvl2 hvs2 hlen hnil hlk hfk hc
          go_wp2_with (first | (at_builtin; refine wp_app 23 22 (.slice none 0 0) 24 und_rows Tryz.infoRow rfl (by decide) rfl _ _ rfl w.heap.size v4 vs rfl hO a2 (gt us k).length cap2 vs2 rfl HN.out.2.2.1 HN.out.2.2.2.1 HN.out.1 HN.out.2.1 HN.out.2.2.2.2 hg.size ?_; intro v5 w5 hO5 hg5 _ _; have hgw5 := grown_own hg hg5 (fun j hj hlt => by have := (hO.lt j hj).1; omega)) | fail)
          clear hcr
          go_roundw
          case rel => exact ⟨k + 1, v5, _, rfl, by go_num, by omega, hgw5, hO5, hnew⟩
          case measure => simp [intOf]; omega
        · have hke : k = us.length := by omega
          subst hke
          have hR : Rows2 Any wr v4 (flatTo us us.length) := by
            have hl9 := HF.out.1 us.length (Nat.le_refl _)
            rcases hO.form with ⟨rfl, rfl⟩ | ⟨g, cp, rfl, hcp, hgB, hgs⟩
            · have h0 : flatTo us us.length = [] := List.eq_nil_of_length_eq_zero hV.out.1.symm
              rw [h0]
              exact ⟨none, 0, rfl, ⟨by simp, by simp, fun _ => rfl⟩, fun i hi => by simp at hi⟩
            · refine ⟨_, cp, by rw [hV.out.1], ⟨by rw [← hV.out.1]; exact hcp, by omega, fun h => by cases h⟩, fun i hi => ⟨g, 0, gt vs i, rfl, trivial, hgs, ?_, ?_⟩⟩
              · rw [Nat.zero_add]; exact hO.cell i (by rw [hV.out.1]; exact hi)
              · exact Ints.ext (hV.out.2 i (by rw [hV.out.1]; exact hi)) hg
          obtain ⟨az, capz, hvz, _, _⟩ := Sl.shape hR
          subst hvz
          clear hV hO
          go_wp2
          go_ret
          exact ⟨_, rfl, hg, hR⟩

end Go.Proofs.YtdklekdpdbjfiaaGreat

/- IsSylowSystem: the program's side. -/
namespace Go.Proofs.YtdklekdpdbjfiaaGreat
open Go.RowKit

/-- v[l:h] at a list of integers -/
theorem run_mid (w : World) (a : Option Addr) (n cap : Nat) (l h : Int) (h0 : 0 ≤ l) (h1 : l ≤ h) (h2 : h ≤ cap) :
    (Instr.slice 22 (.slice a n cap) (some (.int .i64 l)) (some (.int .i64 h)) none).run Tryz.prog w = .ok (subSl (.slice a n cap) l.toNat h.toNat) w := by
  rw [run_slice_lh w 22 a n cap (by kernel_rfl) .i64 .i64 l h h0 h1 h2]
  have : (sizeOf (Tryz.prog.elem 22)).run Tryz.prog w = .ok 1 w := by kernel_rfl
  rw [this]
  simp [Result.andThen, sliced, subSl]
/-- v[:h] at a list of lists of rows -/
theorem run_head_r3 (w : World) (a : Option Addr) (n cap : Nat) (k : Int) (h0 : 0 ≤ k) (h1 : k ≤ cap) :
    (Instr.slice 24 (.slice a n cap) none (some (.int .i64 k)) none).run Tryz.prog w = .ok (.slice a k.toNat cap) w := by
  rw [run_slice_h w 24 a n cap (by kernel_rfl) .i64 k h0 h1]
  have : (sizeOf (Tryz.prog.elem 24)).run Tryz.prog w = .ok 1 w := by kernel_rfl
  rw [this]
  cases a with
  | none => simp [Result.andThen, sliced]
  | some a => simp [Result.andThen, sliced, Addr.add]
theorem rows3_two {w : World} {v1 v2 : Value} {l1 l2 : List (List Int)} (h1 : Rows2 Any w v1 l1) (h2 : Rows2 Any w v2 l2) : Rows3 Any (w.alloc (.cells #[v1, v2] 23)) (.slice (some ⟨w.heap.size, 0, none⟩) 2 2) [l1, l2] := by
  have hg : Ext w (w.alloc (.cells #[v1, v2] 23)) := World.grownBy_alloc _ _ _
  refine ⟨_, 2, rfl, ⟨by simp, by simp, fun h => by cases h⟩, fun i hi => ?_⟩
  have h01 : i = 0 ∨ i = 1 := by simp at hi; omega
  rcases h01 with rfl | rfl
  · exact ⟨w.heap.size, 0, v1, rfl, trivial, by simp, by rw [World.cell?_alloc_at _ _ _ _ rfl]; rfl, Rows2.ext h1 hg⟩
  · exact ⟨w.heap.size, 0, v2, rfl, trivial, by simp, by rw [World.cell?_alloc_at _ _ _ _ rfl]; rfl, Rows2.ext h2 hg⟩
theorem seqOk_sub {P : Pr} (G : Grp P) {u : List (List Int)} (h : SubB P u) : SeqOk P u := by
  have := (G.seq_facts (G.subB h)).1
  rw [h.2]; exact this
theorem dvs_ne (n : Int) {i j : Nat} (h : j < i) (hi : i < (dvs n).length) : gt (dvs n) i ≠ gt (dvs n) j := by
  have h3 := List.pairwise_iff_getElem.1 (dvs_sorted n) j i (by omega) hi h
  rw [gt_eq (dvs n) i hi, gt_eq (dvs n) j (by omega)]
  omega

set_option maxRecDepth 100000 in
set_option maxHeartbeats 8000000 in
theorem iIsy_ok (P : Pr) (w : World) (pv uv : Value) (us : List (List (List Int))) (Sp S : Nat → Prop) (hpv : PresV Sp w pv P) (hu : Rows3 S w uv us) :
    Calls Tryz.prog 20 #[pv, uv] w (Ret w fun _ r => r = .tuple #[.bool (isyV P us), .int .i64 (isyC P us)]) := by
  obtain ⟨vo, vp, vc, rfl, h3⟩ := hpv
  have hp0 := PresP.box h3 31
  have hg0 : Ext w (w.alloc (.cells #[vo, vp, vc] 31)) := World.grownBy_alloc _ _ _
  have hu0 : Rows3 Any (w.alloc (.cells #[vo, vp, vc] 31)) uv us := Rows3.sub (Rows3.ext hu hg0) (fun _ _ _ => trivial)
  have har := areSubgroups_ok P _ _ uv us Any Any hp0 hu0
  obtain ⟨au, cu, rfl, hcu, _⟩ := Sl.shape hu
  go_enter Tryz.func20, Tryz.ntmps20
  go_wp2_with fail
  generalize hw0 : w.alloc (.cells #[vo, vp, vc] 31) = w0 at *
  clear hw0
  refine Calls.mono har ?_
  rintro e1 w1 ⟨v1, rfl, hg1, r, rfl, hr⟩
  clear har
  have hgw1 := grown_trans hg0 hg1
  cases r with
  | false =>
    have hno : ¬ (rconsB P = true ∧ ∀ u ∈ us, SubB P u) := fun h => by have := hr.2 h; cases this
    have HF := Lib.hid (And.intro (isyC_no hno) (isyV_no (fun h => hno h.1))); clear hr hno
    go_wp2
    go_ret2
    exact ⟨_, rfl, hgw1, by rw [HF.out.1, HF.out.2]; rfl⟩
  | true =>
    have hyes := hr.1 rfl
    clear hr
    have G := grp_of_r hyes.1
    have hdl := dvs_len (ordP P)
    have hor := orderOf_ok w1 _ P Any G.v (hp0.ext hg1)
    have hfc := factorsP_ok P G w1
    have HY := Lib.hid hyes; clear hyes
    go_wp2_with fail
    refine Calls.mono hor ?_
    rintro e1 w1 ⟨rfl, rfl⟩
    go_wp2_with fail
    refine Calls.mono hfc ?_
    rintro e2 w2 ⟨v2, rfl, hg2, vd, ve, rfl, hD⟩
    have hDi := hD.ints (by omega)
    obtain ⟨da, dc, rfl, hdc, _⟩ := hDi.shape
    clear hor hfc hD
    obtain ⟨n, hn⟩ : ∃ n, n = (dvs (ordP P)).length := ⟨_, rfl⟩
    rw [← hn] at hdl hDi hdc ⊢
    have HN := Lib.hid hn; clear hn
    obtain ⟨m, hm⟩ : ∃ m, m = us.length := ⟨_, rfl⟩
    rw [← hm] at hu0 hcu ⊢
    have HM := Lib.hid hm; clear hm
    have hg02 := grown_trans hg1 hg2
    have hgw2 := grown_trans hg0 hg02
    by_cases hnm : m = n
    · have hnm' : ((m : Int) != (n : Int)) = false := by rw [hnm]; simp
      obtain ⟨sz, hsz⟩ : ∃ sz, sz = isyC P us := ⟨_, rfl⟩
      have hC0 := isyC_yes HY.out
      have hno : ¬ isyP P us → isyV P us = false := fun h => isyV_no (fun hh => h hh.2)
      have HZ := Lib.hid (And.intro hC0 (And.intro hno hnm)); clear hC0 hno hnm hsz
      go_wp2
      go_loopw [27] (fun iv wr => ∃ (i : Nat), iv = .int .i64 (i : Int) ∧ i ≤ m ∧ Ext w2 wr ∧ Hid ((∀ k, k < i → oU P (gt us k) = hallO P [gt (dvs (ordP P)) k]) ∧ ∀ k j, j < k → k < i → joU P (gt us j) (gt us k) = oU P (gt us j) * oU P (gt us k))) (fun iv _ => m - (intOf iv).toNat)
      case atStart => exact ⟨0, by go_num, Nat.zero_le _, Ext.refl _, Lib.hid ⟨fun k hk => by omega, fun k j _ hk => by omega⟩⟩
      case round =>
        obtain ⟨i, rfl, hi, hg, hI⟩ := hrel
        have hgr := grown_trans hg02 hg
        by_cases hlt : i < m
        · have hlt' : (i : Int) < (m : Int) := by omega
          have hiu : i < us.length := by rw [← HM.out]; exact hlt
          have hid : i < (dvs (ordP P)).length := by rw [← HN.out, ← HZ.out.2.2]; exact hlt
          have hsb := HY.out.2 _ (gt_mem hiu)
          obtain ⟨bl, ol, a2, cap2, hal, _, hbl, hcl, hru⟩ := Rows3.at hu0 i (by rw [← HM.out]; exact hlt)
          subst hal
          have hcr := hgr.cell hcl (by simp)
          have hru2 := Rows2.ext hru hgr
          have hl6 := G.sub_len hsb
          have hn6 := G.v.n6
          have hso := seqOk_sub G hsb
          obtain ⟨i1, hi1⟩ : ∃ i1 : Int, i1 = (i : Int) + 1 := ⟨_, rfl⟩
          have hw1 : IntKind.i64.wrap ((i : Int) + 1) = i1 := by rw [IntWalk.i64_in _ (by omega), hi1]
          have hmid := subSl_ints hDi i (i + 1) (by omega) (by omega)
          have hst : ∀ w', (Instr.slice 22 (.slice da n dc) (some (.int .i64 (i : Int))) (some (.int .i64 i1)) none).run Tryz.prog w' = .ok (subSl (.slice da n dc) i (i + 1)) w' := fun w' => by
            have h := run_mid w' da n dc (i : Int) i1 (by omega) (by omega) (by have := HZ.out.2.2; omega)
            rw [show i1.toNat = i + 1 by omega, Int.toNat_natCast] at h; exact h
          have e1 : ((dvs (ordP P)).take (i + 1)).drop i = [gt (dvs (ordP P)) i] := by
            rw [List.take_succ_eq_append_getElem hid, gt_eq _ i hid]
            rw [List.drop_append_of_le_length (by rw [List.length_take]; omega)]
            rw [List.drop_of_length_le (by rw [List.length_take]; omega)]
            rfl
          rw [e1] at hmid
          obtain ⟨sa, sc, hsv, _, _⟩ := hmid.shape
          rw [hsv] at hmid hst
          obtain ⟨X, hX⟩ : ∃ X, X = gt us i := ⟨_, rfl⟩
          obtain ⟨q, hq⟩ : ∃ q, q = gt (dvs (ordP P)) i := ⟨_, rfl⟩
          rw [← hX] at hcr hru2 hl6 hso hsb
          rw [← hq] at hmid hst
          obtain ⟨a, ha⟩ : ∃ a, a = oU P X := ⟨_, rfl⟩
          obtain ⟨b, hb⟩ : ∃ b, b = hallO P [q] := ⟨_, rfl⟩
          have hsz : ∀ w', Ext wr w' → Calls Tryz.prog 69 #[.pointer (some ⟨w.heap.size, 0, none⟩), .slice a2 X.length cap2] w' (Ret w' fun _ v => v = .int .i64 a) := fun w' h => by
            rw [ha]; exact sizeOf_ok P G.v w' _ _ X Any _ (hp0.ext (grown_trans hgr h)) (Rows2.ext hru2 h) hso (by omega)
          have hho : ∀ w', Ext wr w' → Calls Tryz.prog 70 #[.pointer (some ⟨w.heap.size, 0, none⟩), .slice sa [q].length sc] w' (Ret w' fun _ v => v = .int .i64 b) := fun w' h => by
            rw [hb]; exact hallOrder_ok P G.v [q] w' _ _ Any Any (hp0.ext (grown_trans hgr h)) (Ints.ext hmid (grown_trans hg h))
          have HX := Lib.hid (And.intro hX (And.intro hq (And.intro ha (And.intro hb (And.intro hsb hru2))))); clear hX hq ha hb hsb hru2 hru hcl e1 hsv hmid hi1 hso
          have hcr' : ∀ w', Ext wr w' → w'.cell? ⟨bl, ol + i, none⟩ = some (.slice a2 X.length cap2) := fun w' h => h.cell hcr (by simp)
          go_wp2
          go_region_held3 (fun w' => Ext wr w') (first | exact grown_drew _ _ | exact Ext.refl _ | assumption)
            (first
              | (go_at_call 69; refine Calls.mono (Calls.rel (w0 := wr) (by first | assumption | exact grown_drew _ _) (hsz _ (by first | assumption | exact grown_drew _ _))) ?_; rintro e3 w3 ⟨v3, rfl, hg3, hs3, rfl⟩)
              | (go_at_call 70; refine Calls.mono (Calls.rel (w0 := wr) (by first | assumption | exact grown_drew _ _) (hho _ (by first | assumption | exact grown_drew _ _))) ?_; rintro e4 w4 ⟨v4, rfl, hg4, hs4, rfl⟩))
          clear hcr' hsz hho hst hw1 hcr
          have hgr4 := grown_trans hgr hg4
          have hg24 := grown_trans hg hg4
          by_cases hab : a = b
          · have hab' : (a != b) = false := by rw [hab]; simp
            have hI2 : Hid (∀ k, k < i + 1 → oU P (gt us k) = hallO P [gt (dvs (ordP P)) k]) := Lib.hid (fun k hk => by
              rcases Nat.lt_succ_iff_lt_or_eq.1 hk with h | h
              · exact hI.out.1 k h
              · rw [h, ← HX.out.1, ← HX.out.2.1, ← HX.out.2.2.1, ← HX.out.2.2.2.1]; exact hab)
            have hs3 : ∀ w', (Instr.slice 24 (.slice (some ⟨bl, ol, none⟩) m cu) none (some (.int .i64 (i : Int))) none).run Tryz.prog w' = .ok (.slice (some ⟨bl, ol, none⟩) i cu) w' := fun w' => by
              have h := run_head_r3 w' (some ⟨bl, ol, none⟩) m cu (i : Int) (by omega) (by omega)
              rw [Int.toNat_natCast] at h; exact h
            have hl6X : X.length ≤ 6 := by omega
            have HAB := Lib.hid hab; clear hab hl6
            rw [hab']
            clear hab'
            go_wp2
            clear hs3
            go_loopw [45] (fun jv wr => ∃ (j : Nat), jv = .int .i64 (j : Int) ∧ j ≤ i ∧ Ext w4 wr ∧ Hid (∀ k, k < j → joU P (gt us k) X = oU P (gt us k) * oU P X)) (fun jv _ => i - (intOf jv).toNat)
            case atStart => exact ⟨0, by go_num, Nat.zero_le _, Ext.refl _, Lib.hid (fun k hk => by omega)⟩
            case round =>
              obtain ⟨j, rfl, hj, hgj, hJ⟩ := hrel
              by_cases hltj : j < i
              · have hltj' : (j : Int) < (i : Int) := by omega
                have hju : j < us.length := by omega
                have hsbY := HY.out.2 _ (gt_mem hju)
                have hgrj := grown_trans hgr4 hgj
                obtain ⟨bl', ol', a3, cap3, hal', _, hbl', hcl', hru'⟩ := Rows3.at hu0 j (by omega)
                cases hal'
                have hcr := hgrj.cell hcl' (by simp)
                have hruY := Rows2.ext hru' hgrj
                have hruX := Rows2.ext HX.out.2.2.2.2.2 (grown_trans hg4 hgj)
                obtain ⟨Y, hY⟩ : ∃ Y, Y = gt us j := ⟨_, rfl⟩
                have hsY := hI.out.1 j hltj
                rw [← hY] at hcr hruY hsbY hsY
                have hsbX := HX.out.2.2.2.2.1
                have hl6Y : Y.length ≤ 6 := by have := G.sub_len hsbY; omega
                have hsX : oU P X = hallO P [gt (dvs (ordP P)) i] := by rw [← HX.out.2.1, ← HX.out.2.2.1, ← HX.out.2.2.2.1]; exact HAB.out
                have hne := dvs_ne (ordP P) hltj hid
                have hpz := isy_prod G hsbX hsbY hsX hsY hne
                have eX : cseq P (gP P X) = X := hsbX.2.symm
                have eY : cseq P (gP P Y) = Y := hsbY.2.symm
                have hps : Calls Tryz.prog 71 #[.pointer (some ⟨w.heap.size, 0, none⟩), .slice a2 X.length cap2, .slice a3 Y.length cap3] wr (Ret wr fun _ v => v = .int .i64 (prodSz P (gP P X) (gP P Y))) :=
                  productSize_ok P G wr _ _ _ (gP P X) (gP P Y) Any Any Any (G.subB hsbX) (G.subB hsbY) (hp0.ext hgrj) (by rw [eX]; exact Rows2.sub hruX (fun _ _ _ => trivial)) (by rw [eY]; exact Rows2.sub hruY (fun _ _ _ => trivial))
                rw [hpz] at hps
                obtain ⟨pz, hpz2⟩ : ∃ pz, pz = oU P X * oU P Y := ⟨_, rfl⟩
                rw [← hpz2] at hps
                have hRX : Rows2 Any wr (.slice a2 X.length cap2) X := Rows2.sub hruX (fun _ _ _ => trivial)
                have hRY : Rows2 Any wr (.slice a3 Y.length cap3) Y := Rows2.sub hruY (fun _ _ _ => trivial)
                have hvec : ∀ x ∈ X ++ Y, Vec P.orders x := fun x hx => by
                  rcases List.mem_append.1 hx with h | h
                  · exact hsbX.1 x h
                  · exact hsbY.1 x h
                have HP := Lib.hid (And.intro hpz2 (And.intro hY (And.intro hvec (And.intro hsbX hsbY)))); clear hpz2 hpz hY hvec hsbX hsbY hsX hsY hne eX eY hruX hruY hru' hcl'
                go_wp2_with fail
                clear hcr
                refine Calls.mono hps ?_
                rintro e5 w5 ⟨v5, rfl, hg5, rfl⟩
                clear hps
                have hga : Ext w5 (w5.alloc (.cells #[.slice a2 X.length cap2, .slice a3 Y.length cap3] 23)) := World.grownBy_alloc _ _ _
                have hcc := concatRows_ok (w5.alloc (.cells #[.slice a2 X.length cap2, .slice a3 Y.length cap3] 23)) _ _ Any (rows3_two (Rows2.ext hRX hg5) (Rows2.ext hRY hg5)) (fun u hu => by
                  simp only [List.mem_cons, List.not_mem_nil, or_false] at hu
                  rcases hu with rfl | rfl <;> omega) (by simp)
                have efl : flatTo [X, Y] ([X, Y] : List (List (List Int))).length = X ++ Y := by show ([] ++ X) ++ Y = X ++ Y; rw [List.nil_append]
                rw [efl] at hcc
                have hgwa := grown_trans (grown_trans hgrj hg5) hga
                have HA := Lib.hid hga; clear hga efl hRX hRY
                go_wp2_with fail
                refine Calls.mono hcc ?_
                rintro e6 w6 ⟨v6, rfl, hg6, hR6⟩
                clear hcc
                have hgw6 := grown_trans hgwa hg6
                have hgen := generated_ok P G w6 _ v6 (X ++ Y) Any Any (hp0.ext hgw6) hR6 HP.out.2.2.1 (by rw [List.length_append]; omega)
                obtain ⟨ra, rc, hrv, _, _⟩ := Sl.shape hR6
                obtain ⟨rl, hrl⟩ : ∃ rl, rl = (X ++ Y).length := ⟨_, rfl⟩
                rw [← hrl] at hrv
                subst hrv
                clear hR6 hrl
                go_wp2_with fail
                refine Calls.mono hgen ?_
                rintro e7 w7 ⟨v7, rfl, hg7, hO7⟩
                clear hgen
                have hgw7 := grown_trans hgw6 hg7
                have hSJ : Sub P (genP P (fun x => x ∈ X ++ Y)) := G.genP_sub HP.out.2.2.1
                have hlJ := G.cseq_len hSJ
                have hsz7 := sizeOf_ok P G.v w7 _ v7 _ Any _ (hp0.ext hgw7) (RowsD.rows (hO7.toD (by omega))) (G.seq_facts hSJ).1 (by omega)
                obtain ⟨jz, hjz⟩ : ∃ jz, jz = joU P X Y := ⟨_, rfl⟩
                rw [show prodU P (cseq P (genP P (fun x => x ∈ X ++ Y))) (cseq P (genP P (fun x => x ∈ X ++ Y))).length = joU P X Y from rfl, ← hjz] at hsz7
                obtain ⟨ja, jc, hjv, _, _⟩ := SlD.shape (hO7.toD (by omega))
                obtain ⟨jl, hjl⟩ : ∃ jl, jl = (cseq P (genP P (fun x => x ∈ X ++ Y))).length := ⟨_, rfl⟩
                rw [← hjl] at hjv
                subst hjv
                have HJZ := Lib.hid hjz; clear hjz hjl hSJ hlJ hO7
                go_wp2_with fail
                refine Calls.mono hsz7 ?_
                rintro e8 w8 ⟨v8, rfl, hg8, rfl⟩
                clear hsz7
                have hg48 := grown_trans hgj (grown_trans hg5 (grown_trans HA.out (grown_trans hg6 (grown_trans hg7 hg8))))
                by_cases hpj : pz = jz
                · have hpj' : (pz != jz) = false := by rw [hpj]; simp
                  have hJ2 : Hid (∀ k, k < j + 1 → joU P (gt us k) X = oU P (gt us k) * oU P X) := Lib.hid (fun k hk => by
                    rcases Nat.lt_succ_iff_lt_or_eq.1 hk with h | h
                    · exact hJ.out k h
                    · rw [h, ← HP.out.2.1, joU_comm, ← HJZ.out, ← hpj, HP.out.1, Int.mul_comm])
                  have HPJ := Lib.hid hpj; clear hpj
                  go_wp2
                  go_roundw
                  case rel => exact ⟨j + 1, by go_num, by omega, hg48, hJ2⟩
                  case measure => simp [intOf]; omega
                · have hpj' : (pz != jz) = true := by simpa using hpj
                  have hbad : isyV P us = false := HZ.out.2.1 (fun hh => hpj (by
                    have h := hh.2.2 i j hltj hiu
                    rw [← HX.out.1, ← HP.out.2.1, joU_comm, ← HJZ.out, Int.mul_comm, ← HP.out.1] at h
                    exact h.symm))
                  have HF := Lib.hid (And.intro HZ.out.1 hbad); clear hbad hpj
                  go_wp2
                  go_ret2
                  exact ⟨_, rfl, grown_trans hg0 (grown_trans hgr4 hg48), by rw [HF.out.1, HF.out.2]; rfl⟩
              · have hje : j = i := by omega
                subst hje
                have hI3 : Hid ((∀ k, k < j + 1 → oU P (gt us k) = hallO P [gt (dvs (ordP P)) k]) ∧ ∀ k q, q < k → k < j + 1 → joU P (gt us q) (gt us k) = oU P (gt us q) * oU P (gt us k)) := Lib.hid ⟨hI2.out, fun k q hq hk => by
                  rcases Nat.lt_succ_iff_lt_or_eq.1 hk with h | h
                  · exact hI.out.2 k q hq h
                  · rw [h] at hq ⊢
                    rw [← HX.out.1]
                    exact hJ.out q hq⟩
                go_wp2
                go_roundw
                case rel => exact ⟨j + 1, by go_num, by omega, grown_trans hg24 hgj, hI3⟩
                case measure => simp [intOf]; omega
          · have hab' : (a != b) = true := by simpa using hab
            have hbad : isyV P us = false := HZ.out.2.1 (fun hh => hab (by
              have h := hh.2.1 i hiu
              rw [← HX.out.1, ← HX.out.2.1, ← HX.out.2.2.1, ← HX.out.2.2.2.1] at h
              exact h))
            have HF := Lib.hid (And.intro HZ.out.1 hbad); clear hbad hab
            go_wp2
            go_ret2
            exact ⟨_, rfl, grown_trans hg0 hgr4, by rw [HF.out.1, HF.out.2]; rfl⟩
        · have hie : i = m := by omega
          subst hie
          have hV : isyV P us = true := isyV_yes HY.out ⟨by rw [← HM.out, ← HN.out]; exact HZ.out.2.2, by rw [← HM.out]; exact hI.out.1, by rw [← HM.out]; exact fun k j hj hk => hI.out.2 k j hj hk⟩
          have HF := Lib.hid (And.intro HZ.out.1 hV); clear hV
          go_wp2
          go_ret2
          exact ⟨_, rfl, grown_trans hg0 hgr, by rw [HF.out.1, HF.out.2]; rfl⟩
    · have hnm' : ((m : Int) != (n : Int)) = true := by simp; omega
      have HF := Lib.hid (And.intro (isyC_yes HY.out) (isyV_no (fun h => hnm (by rw [HM.out, HN.out]; exact h.2.1)) : isyV P us = false))
      clear hnm
      go_wp2
      go_ret2
      exact ⟨_, rfl, hgw2, by rw [HF.out.1, HF.out.2]; rfl⟩

end Go.Proofs.YtdklekdpdbjfiaaGreat

/- append of a whole list of rows, in a region that draws; l01Own2 hands back a list that is not nil. -/
namespace Go.Proofs.YtdklekdpdbjfiaaGreat
open Go.RowKit

theorem step_app_many (T E : Nat) (z : Value) (bytes : Nat) (hT : Tryz.prog.underlying T = some (.slice E)) (hE : (Tryz.prog.info? E).map (fun i => (i.zero, i.size, i.bytes)) = some (some z, 1, bytes))
    (hzs : z.cells.size = 1) (hbt : bytes ≤ 64) {ops : Array Oper} {o : Oper} {a : Act} {K : Act → World → Prop} {Q : Exit → Act → World → Prop} {Ex : Prop} {w : World} (hgd : o.guard = none) (s x : Operand)
    (ho : o.op = Op.call { callee := Callee.builtin Builtin.append, args := #[s, x], argTypes := #[T, T] }) (base g cap : Nat) (xs : List Value) (hs : a.eval s = .slice (some ⟨g, 0, none⟩) xs.length cap) (hown : OwnV base E w (.slice (some ⟨g, 0, none⟩) xs.length cap) xs)
    (sa : Option Addr) (m c : Nat) (news : List Value) (hx : a.eval x = .slice sa m c) (hl : news.length = m) (hsn : sa = none → c = 0)
    (hnews : ∀ j, j < m → ∃ b off, sa = some ⟨b, off, none⟩ ∧ w.cell? ⟨b, off + j, none⟩ = some (gt news j)) (h1 : ∀ u, u ∈ news → u.oneCell' = true) (hlen : xs.length + m ≤ 1000000) (hbase : base ≤ w.heap.size)
    (h : ∀ v' w', OwnV base E w' v' (xs ++ news) → w.grownBy w' (some g) → K (a.put o.dst v') w') :
    if Region.wanted o (yielded ops a.tmps) = true then Oper.wp Tryz.prog o a w K Q else Ex := by
  obtain ⟨i0, hi, hz0, hz1, hz2⟩ := info_parts hE
  have hw : Region.wanted o (yielded ops a.tmps) = true := by simp [Region.wanted, hgd]
  rcases Nat.eq_zero_or_pos m with rfl | hm
  · have hn : news = [] := List.eq_nil_of_length_eq_zero hl
    subst hn
    have hown0 := hown
    rw [List.append_nil] at h
    cases sa with
    | none =>
      have hc := hsn rfl
      subst hc
      rw [if_pos hw]
      have hrun := run_append_owned_none (P := Tryz.prog) (w := w) base T o.type E i0 1 hT hi _ xs.length xs hown
      unfold Oper.wp
      simp [execOp, ho, resolve, invoke, builtin, hs, hx, hrun, Result.andThen]
      exact h _ _ hown0 (grown_refl _ _)
    | some ad =>
      have hcap : xs.length ≤ cap := by
        rcases hown.form with ⟨h, _⟩ | ⟨g', cp, hv, hc, _⟩
        · cases h
        · simp only [Value.slice.injEq] at hv; omega
      refine step_append_at w hgd s x T ho E i0 z 1 bytes hT hi hz0 hz1 hz2 hzs (by decide) g 0 xs.length cap xs hs (by omega) (fun j u hj => ?_) ad 0 c [] hx rfl (by simp) (by simp) (fun _ j hj => by simp at hj) (by unfold maxLen; omega) (by have := Nat.mul_le_mul (show xs.length + 0 ≤ 1000000 by omega) hbt; omega) (fun _ => ?_) (fun h => by omega)
      · have hj2 : j < xs.length := by
          rcases Nat.lt_or_ge j xs.length with h | h
          · exact h
          · rw [List.getElem?_eq_none h] at hj; cases hj
        rw [Nat.zero_add, hown.cell j hj2]
        simp [gt, hj]
      · have e : w.setCells g (0 + xs.length * 1) [] = w := by simp [World.setCells]
        rw [e]
        exact h _ _ hown0 (grown_refl _ _)
  · obtain ⟨b, off, rfl, _⟩ := hnews 0 hm
    refine step_append_lies w hgd s x T ho base E i0 z 1 bytes hT hi hz0 hz1 hz2 hzs (by decide) _ xs.length xs hs hown ⟨b, off, none⟩ m c news hx (by omega) (fun j u hj => ?_) h1 hm (by unfold maxLen; omega) (by have := Nat.mul_le_mul (show xs.length + m ≤ 1000000 by omega) hbt; omega) hbase w.heap.size rfl ?_
    · have hj2 : j < m := by
        rcases Nat.lt_or_ge j news.length with h | h
        · omega
        · rw [List.getElem?_eq_none h] at hj; cases hj
      obtain ⟨b', off', he, hc⟩ := hnews j hj2
      cases he
      have hgj : gt news j = u := by simp [gt, hj]
      rw [hgj] at hc
      unfold Addr.add
      split
      · rename_i h0; subst h0; exact hc
      · exact hc
    · intro g' cap' w' k1 k2 k3 _
      exact h _ w' (by unfold OwnV; rw [List.length_append, hl]; exact k1) k2

/-- the rows of a list of the call's own, with the rows of another one behind them, in a region that draws -/
theorem step_app_rows {ops : Array Oper} {o : Oper} {a : Act} {K : Act → World → Prop} {Q : Exit → Act → World → Prop} {Ex : Prop} {w : World} (hgd : o.guard = none) (s x : Operand)
    (ho : o.op = Op.call { callee := Callee.builtin Builtin.append, args := #[s, x], argTypes := #[23, 23] }) (B g cap : Nat) (xs ys : List (List Int)) (hs : a.eval s = .slice (some ⟨g, 0, none⟩) xs.length cap)
    (hown : RowsO B w (.slice (some ⟨g, 0, none⟩) xs.length cap) xs) (v : Value) (S : Nat → Prop) (hv : Rows2 S w v ys) (hS : ∀ k, S k → k < w.heap.size → k < B) (hx : a.eval x = v) (hlen : xs.length + ys.length ≤ 1000000) (hbase : B ≤ w.heap.size)
    (h : ∀ v' w', Rows2 Any w' v' (xs ++ ys) → w.grownBy w' (some g) → K (a.put o.dst v') w') :
    if Region.wanted o (yielded ops a.tmps) = true then Oper.wp Tryz.prog o a w K Q else Ex := by
  obtain ⟨sa, c, rfl, _, _⟩ := Sl.shape hv
  obtain ⟨vs2, hvl2, hvs2⟩ := Sl.vals hv
  have hnil : sa = none → c = 0 := by
    obtain ⟨a', cap', he, hl', _⟩ := hv
    cases he; exact hl'.2.2
  obtain ⟨vs, G, hvl, hO, hG, _, hE⟩ := hown
  have hgB := (hO.lt g rfl).1
  rw [← hvl] at hs hO
  refine step_app_many 23 22 (.slice none 0 0) 24 und_rows Tryz.infoRow rfl (by decide) hgd s x ho B g cap vs hs hO sa ys.length c vs2 hx hvl2 hnil (fun j hj => ?_) (fun u hu => ?_) (by omega) hbase (fun v' w' k1 k2 => ?_)
  · obtain ⟨⟨b, off, h1, h2⟩, _⟩ := hvs2 j hj
    exact ⟨b, off, h1, h2⟩
  · obtain ⟨j, hj, rfl⟩ := List.getElem_of_mem hu
    rw [← gt_eq vs2 j hj]
    exact rdInts.one (hvs2 j (by omega)).2
  · refine h v' w' ?_ k2
    have hrow : ∀ i, i < (xs ++ ys).length → Ints Any w' (gt (vs ++ vs2) i) (gt (xs ++ ys) i) := fun i hi => by
      by_cases hlt : i < xs.length
      · rw [gt_append_left _ _ _ (by omega), gt_append_left _ _ _ hlt]
        exact Ints.mono (hE i hlt).ints (fun k hk hkl => ⟨trivial, Nat.lt_of_lt_of_le hkl k2.size, k2.block k hkl (fun e => (hG i k hlt hk).2.1 (by cases e; rfl))⟩)
      · have hi2 : i - xs.length < ys.length := by simp only [List.length_append] at hi; omega
        have e1 : gt (vs ++ vs2) i = gt vs2 (i - xs.length) := by
          rw [← hvl]
          simp only [gt, List.getD_eq_getElem?_getD]
          rw [List.getElem?_append_right (by omega)]
        have e2 : gt (xs ++ ys) i = gt ys (i - xs.length) := by
          simp only [gt, List.getD_eq_getElem?_getD]
          rw [List.getElem?_append_right (by omega)]
        rw [e1, e2]
        exact Ints.mono (hvs2 _ hi2).2 (fun k hk hkl => ⟨trivial, Nat.lt_of_lt_of_le hkl k2.size, k2.block k hkl (fun e => by cases e; have := hS g hk hkl; omega)⟩)
    have hll : (vs ++ vs2).length = (xs ++ ys).length := by simp [hvl, hvl2]
    rcases k1.form with ⟨rfl, h0⟩ | ⟨g', cp, rfl, hcp, _, hgs⟩
    · have h9 : xs ++ ys = [] := List.eq_nil_of_length_eq_zero (by rw [← hll, h0]; rfl)
      rw [h9]
      exact ⟨none, 0, rfl, ⟨by simp, by simp, fun _ => rfl⟩, fun i hi => by simp at hi⟩
    · refine ⟨_, cp, by rw [hll], ⟨by rw [← hll]; exact hcp, by rw [List.length_append]; omega, fun h => by cases h⟩, fun i hi => ⟨g', 0, gt (vs ++ vs2) i, rfl, trivial, hgs, ?_, hrow i hi⟩⟩
      rw [Nat.zero_add]; exact k1.cell i (by rw [hll]; exact hi)

set_option maxHeartbeats 1000000 in
theorem l01Own2N_ok (w : World) (v : Value) (L : List (List Int)) (S : Nat → Prop) (hv : Rows2 S w v L) (hL : ∀ x ∈ L, x.length ≤ 1000000) (hlen : L.length ≤ 1000000) :
    Calls Tryz.prog 65 #[v] w (Ret w fun w' r => RowsO w.heap.size w' r L ∧ ∃ g cap, r = .slice (some ⟨g, 0, none⟩) L.length cap) := by
  obtain ⟨a, cap, rfl, _, _⟩ := Sl.shape hv
  have HL := Lib.hid hL; clear hL
  go_enter Tryz.func65, Tryz.ntmps65
  go_wp2
  go_loopw [3, 4] (fun ov iv wr => ∃ (i : Nat) (v4 : Value), v4 = ov ∧ iv = .int .i64 i ∧ i ≤ L.length ∧ Ext w wr ∧ RowsO w.heap.size wr v4 (L.take i) ∧ Hid (∃ g cap, v4 = .slice (some ⟨g, 0, none⟩) i cap)) (fun _ iv _ => L.length - (intOf iv).toNat)
  case atStart => exact ⟨0, _, rfl, rfl, by omega, World.grownBy_alloc _ _ _, ⟨[], fun _ _ => False, rfl, World.ownsRow_lit w #[] 0 (Nat.le_refl _) (by decide) rfl, by simp, by simp, by simp⟩, Lib.hid ⟨_, _, rfl⟩⟩
  case round =>
    obtain ⟨i, v4, rfl, rfl, hi, hg, hO, hN⟩ := hrel
    by_cases hlt : i < L.length
    · have hlt' : (i : Int) < L.length := by omega
      obtain ⟨b, off, a2, cap2, rfl, _, _, hc, hr⟩ := Rows2.at (Rows2.ext hv hg) i hlt
      have hstep := take_succ_gt L i hlt
      have hll := HL.out _ (gtMem hlt)
      have htl : (L.take i).length ≤ 1000000 := by rw [List.length_take]; omega
      have HST := Lib.hid (And.intro hstep hll); clear hstep hll
      go_wp2_with fail
      refine Calls.mono (l01Own_ok wr _ (gt L i) _ hr (by have := HST.out.2; omega)) ?_
      rintro eC wC ⟨vC, rfl, hgC, hOC⟩
      have hYO : OwnIn (From wr.heap.size) wC vC (gt L i) := OwnIn.of hOC (by have := HST.out.2; omega) (fun j h1 _ => h1)
      obtain ⟨ay, capy, hvy, _, _⟩ := hYO.ints.shape
      subst hvy
      clear hc
      go_wp2_with (first | (at_builtin; refine wp_app_row rfl _ _ rfl w.heap.size wr wC v4 _ (L.take i) (gt L i) rfl hO hgC hYO rfl rfl htl hg.size ?_; intro v5 w5 hO5 hg5 hg6; have hgw5 := hO.extw hg (Nat.le_refl _) hg5) | fail)
      have hN5 : Hid (∃ g cap, v5 = .slice (some ⟨g, 0, none⟩) (i + 1) cap) := by
        obtain ⟨vs, G, hvl, hOv, _⟩ := hO5
        have hvl2 : vs.length = i + 1 := by rw [hvl, List.length_append, List.length_take]; simp; omega
        rcases hOv.form with ⟨_, h2⟩ | ⟨g, cp, h1, _⟩
        · rw [h2] at hvl2; simp at hvl2
        · exact Lib.hid ⟨g, cp, by rw [h1, hvl2]⟩
      go_roundw
      case rel => exact ⟨i + 1, v5, rfl, by go_num, by omega, hgw5, by rw [HST.out.1]; exact hO5, hN5⟩
      case measure => simp [intOf]; omega
    · have hie : i = L.length := by omega
      subst hie
      rw [List.take_length] at hO
      obtain ⟨g, cp, hvg⟩ := hN.out
      subst hvg
      clear hN
      go_wp2
      go_ret
      exact ⟨_, rfl, hg, hO, _, _, rfl⟩

end Go.Proofs.YtdklekdpdbjfiaaGreat

/- IsSylowSystem: the reference's side. -/
namespace Go.Proofs.YtdklekdpdbjfiaaGreat
open Go.RowKit

theorem part_hall {P : Pr} (G : Grp P) {q : Int} (hq : q = 2 ∨ q = 3 ∨ q = 5 ∨ q = 7) (w : World) : Calls Tryz.prog 62 #[.int .i64 (ordP P), .int .i64 q] w (Ret w fun _ r => r = .int .i64 (hallO P [q])) := by
  obtain ⟨p, hp, hp7⟩ : ∃ p : Nat, q = (p : Int) ∧ (p = 2 ∨ p = 3 ∨ p = 5 ∨ p = 7) := by
    rcases hq with h | h | h | h
    · exact ⟨2, h, .inl rfl⟩
    · exact ⟨3, h, .inr (.inl rfl)⟩
    · exact ⟨5, h, .inr (.inr (.inl rfl))⟩
    · exact ⟨7, h, .inr (.inr (.inr rfl))⟩
  have h7 := prd_729 G (fun _ => True)
  have h := l01Part_ok (prd P (fun _ => True) P.orders.length 0) p h7.1 (by omega) (by omega) (by omega) w
  rw [prd_all G, prt_prd G (fun _ => True) hp7 _ _ (Nat.zero_add _)] at h
  have e : hallO P [q] = ((prd P (fun k => True ∧ gt P.orders k = (p : Int)) P.orders.length 0 : Nat) : Int) := by
    rw [hallO_eq G, Int.natCast_inj]
    exact prd_congr _ _ (fun k _ _ => by rw [hp, List.mem_singleton]; exact ⟨fun hh => ⟨trivial, hh⟩, fun hh => hh.2⟩)
  rw [e, hp]
  exact h

set_option maxRecDepth 100000 in
set_option maxHeartbeats 8000000 in
theorem sIsy_ok (P : Pr) (w : World) (pv uv : Value) (us : List (List (List Int))) (Sp S : Nat → Prop) (hpv : PresV Sp w pv P) (hu : Rows3 S w uv us) :
    Calls Tryz.prog 17 #[pv, uv] w (Ret w fun _ r => r = .tuple #[.bool (isyV P us), .int .i64 (isyC P us)]) := by
  obtain ⟨vo, vp, vc, rfl, h3⟩ := hpv
  have hp0 := PresP.box h3 31
  have hg0 : Ext w (w.alloc (.cells #[vo, vp, vc] 31)) := World.grownBy_alloc _ _ _
  have hu0 : Rows3 Any (w.alloc (.cells #[vo, vp, vc] 31)) uv us := Rows3.sub (Rows3.ext hu hg0) (fun _ _ _ => trivial)
  obtain ⟨vo6, vp6, vc6, _, _, hc0, hc1, hc2, h36⟩ := hp0.at
  simp only [Nat.zero_add] at hc1 hc2
  have hbx : ∀ w', Ext (w.alloc (.cells #[vo, vp, vc] 31)) w' → w'.cell? ⟨w.heap.size, 0, none⟩ = some vo6 ∧ w'.cell? ⟨w.heap.size, 1, none⟩ = some vp6 ∧ w'.cell? ⟨w.heap.size, 2, none⟩ = some vc6 := fun w' h => ⟨h.cell hc0 (by simp), h.cell hc1 (by simp), h.cell hc2 (by simp)⟩
  have HB := Lib.hid hbx; clear hbx hp0
  have hgp := l08Group_ok P _ (.agg #[vo6, vp6, vc6]) Any ⟨_, _, _, rfl, h36⟩
  obtain ⟨au, cu, rfl, hcu, _⟩ := Sl.shape hu
  obtain ⟨r, hr⟩ : ∃ r, r = rconsB P := ⟨_, rfl⟩
  rw [← hr] at hgp
  go_enter Tryz.func17, Tryz.ntmps17
  go_wp2_with fail
  clear hc0 hc1 hc2
  generalize hw0 : w.alloc (.cells #[vo, vp, vc] 31) = w0 at *
  clear hw0
  refine Calls.mono hgp ?_
  rintro e1 w1 ⟨v1, rfl, hg1, rfl⟩
  clear hgp
  have hgw1 := grown_trans hg0 hg1
  cases r with
  | false =>
    have hno : ¬ (rconsB P = true ∧ ∀ u ∈ us, SubB P u) := fun h => by rw [h.1] at hr; cases hr
    have HF := Lib.hid (And.intro (isyC_no hno) (isyV_no (fun h => hno h.1))); clear hr hno
    go_wp2
    go_ret2
    exact ⟨_, rfl, hgw1, by rw [HF.out.1, HF.out.2]; rfl⟩
  | true =>
    have G := grp_of_r hr.symm
    have hdl := dvs_len (ordP P)
    obtain ⟨m, hm⟩ : ∃ m, m = us.length := ⟨_, rfl⟩
    rw [← hm] at hu0 hcu ⊢
    have HM := Lib.hid (And.intro hm hr.symm); clear hm hr
    go_wp2
    go_loopw [6] (fun iv wr => ∃ (i : Nat), iv = .int .i64 (i : Int) ∧ i ≤ m ∧ Ext w1 wr ∧ Hid (∀ k, k < i → SubB P (gt us k))) (fun iv _ => m - (intOf iv).toNat)
    case atStart => exact ⟨0, by go_num, Nat.zero_le _, Ext.refl _, Lib.hid (fun k hk => by omega)⟩
    case round =>
      obtain ⟨i, rfl, hi, hg, hI⟩ := hrel
      have hgr := grown_trans hg1 hg
      by_cases hlt : i < m
      · have hlt' : (i : Int) < (m : Int) := by omega
        have hiu : i < us.length := by rw [← HM.out.1]; exact hlt
        obtain ⟨bl, ol, a2, cap2, hal, _, hbl, hcl, hru⟩ := Rows3.at hu0 i (by rw [← HM.out.1]; exact hlt)
        subst hal
        have hru2 := Rows2.ext hru hgr
        obtain ⟨X, hX⟩ : ∃ X, X = gt us i := ⟨_, rfl⟩
        rw [← hX] at hru2
        have hcr : ∀ w', Ext wr w' → w'.cell? ⟨bl, ol + i, none⟩ = some (.slice a2 X.length cap2) := fun w' h => by rw [hX]; exact (grown_trans hgr h).cell hcl (by simp)
        have f1 : ∀ w', Ext wr w' → w'.cell? ⟨w.heap.size, 0, none⟩ = some vo6 := fun w' h => (HB.out w' (grown_trans hgr h)).1
        have f2 : ∀ w', Ext wr w' → w'.cell? ⟨w.heap.size, 1, none⟩ = some vp6 := fun w' h => (HB.out w' (grown_trans hgr h)).2.1
        have f3 : ∀ w', Ext wr w' → w'.cell? ⟨w.heap.size, 2, none⟩ = some vc6 := fun w' h => (HB.out w' (grown_trans hgr h)).2.2
        have HX := Lib.hid (And.intro hX hru2); clear hX hru2 hru hcl
        go_wp2
        go_region_held3 (fun w' => Ext wr w') (first | exact grown_drew _ _ | exact Ext.refl _ | assumption)
          (first
            | (go_at_call 59; refine Calls.mono (Calls.rel (w0 := wr) (by first | assumption | exact grown_drew _ _) (l12Is_ok P G _ (.agg #[vo6, vp6, vc6]) _ X Any _ ⟨_, _, _, rfl, Pres3.ext h36 (grown_trans hgr (by first | assumption | exact grown_drew _ _))⟩ (Rows2.ext HX.out.2 (by first | assumption | exact grown_drew _ _)))) ?_; rintro e3 w3 ⟨v3, rfl, hg3, hs3, b, rfl, hb⟩))
        clear f1 f2 f3 hcr
        have hg13 := grown_trans hg hg3
        cases b with
        | true =>
          have hI2 : Hid (∀ k, k < i + 1 → SubB P (gt us k)) := Lib.hid (fun k hk => by
            rcases Nat.lt_succ_iff_lt_or_eq.1 hk with h | h
            · exact hI.out k h
            · rw [h, ← HX.out.1]; exact hb.1 rfl)
          clear hb
          go_wp2
          go_roundw
          case rel => exact ⟨i + 1, by go_num, by omega, hg13, hI2⟩
          case measure => simp [intOf]; omega
        | false =>
          have hno : ¬ (rconsB P = true ∧ ∀ u ∈ us, SubB P u) := fun h => by
            have := hb.2 (by rw [HX.out.1]; exact h.2 _ (gt_mem hiu))
            cases this
          have HF := Lib.hid (And.intro (isyC_no hno) (isyV_no (fun h => hno h.1))); clear hb hno
          go_wp2
          go_ret2
          exact ⟨_, rfl, grown_trans hg0 (grown_trans hg1 hg13), by rw [HF.out.1, HF.out.2]; rfl⟩
      · have hie : i = m := by omega
        have hyes : rconsB P = true ∧ ∀ u ∈ us, SubB P u := ⟨HM.out.2, fun u hu' => by
          obtain ⟨k, hk, rfl⟩ := List.getElem_of_mem hu'
          rw [← gt_eq us k hk]
          exact hI.out k (by rw [hie, HM.out.1]; exact hk)⟩
        have HY := Lib.hid hyes; clear hyes hI
        have hdv := l20Divisors_ok P G.v wr (.agg #[vo6, vp6, vc6]) Any ⟨_, _, _, rfl, Pres3.ext h36 hgr⟩
        obtain ⟨hc0, hc1, hc2⟩ := HB.out _ hgr
        subst hie
        go_wp2_with fail
        clear hc0 hc1 hc2
        refine Calls.mono hdv ?_
        rintro e2 w2 ⟨v2, rfl, hg2, hD⟩
        have hDi := hD.ints (by omega)
        obtain ⟨da, dc, rfl, hdc, _⟩ := hDi.shape
        clear hdv hD
        obtain ⟨n, hn⟩ : ∃ n, n = (dvs (ordP P)).length := ⟨_, rfl⟩
        rw [← hn] at hdl hDi hdc ⊢
        have HN := Lib.hid hn; clear hn
        have hg02 := grown_trans hgr hg2
        have hgw2 := grown_trans hg0 hg02
        by_cases hnm : n = i
        · have hnm' : ((n : Int) != (i : Int)) = false := by rw [hnm]; simp
          obtain ⟨m, rfl⟩ : ∃ m, m = i := ⟨_, rfl⟩
          have hC0 := isyC_yes HY.out
          have hno : ¬ isyP P us → isyV P us = false := fun h => isyV_no (fun hh => h hh.2)
          have HZ := Lib.hid (And.intro hC0 (And.intro hno hnm)); clear hC0 hno hnm
          obtain ⟨wm, rfl⟩ : ∃ wm : World, wm = wr := ⟨_, rfl⟩
          go_wp2
          go_loopw [8] (fun iv wr => ∃ (i : Nat), iv = .int .i64 (i : Int) ∧ i ≤ m ∧ Ext w2 wr ∧ Hid (∀ k, k < i → oU P (gt us k) = hallO P [gt (dvs (ordP P)) k])) (fun iv _ => m - (intOf iv).toNat)
          case atStart => exact ⟨0, by go_num, Nat.zero_le _, Ext.refl _, Lib.hid (fun k hk => by omega)⟩
          case round =>
            obtain ⟨i, rfl, hi, hg, hI⟩ := hrel
            have hgr := grown_trans hg02 hg
            by_cases hlt : i < m
            · have hlt' : (i : Int) < (m : Int) := by omega
              have hiu : i < us.length := by rw [← HM.out.1]; exact hlt
              have hid : i < (dvs (ordP P)).length := by rw [← HN.out, HZ.out.2.2]; exact hlt
              have hltn : (i : Int) < (n : Int) := by rw [HZ.out.2.2]; exact hlt'
              have hsb := HY.out.2 _ (gt_mem hiu)
              obtain ⟨bl, ol, a2, cap2, hal, _, hbl, hcl, hru⟩ := Rows3.at hu0 i (by rw [← HM.out.1]; exact hlt)
              subst hal
              have hru2 := Rows2.ext hru hgr
              have hl6 := G.sub_len hsb
              have hn6 := G.v.n6
              have hso := seqOk_sub G hsb
              obtain ⟨b, o, hab, _, _, hcq⟩ := Ints.at hDi i hid
              subst hab
              obtain ⟨X, hX⟩ : ∃ X, X = gt us i := ⟨_, rfl⟩
              obtain ⟨q, hq⟩ : ∃ q, q = gt (dvs (ordP P)) i := ⟨_, rfl⟩
              have hq7 : q = 2 ∨ q = 3 ∨ q = 5 ∨ q = 7 := by rw [hq]; exact (dvs_mem (gt_mem hid)).1
              obtain ⟨x, hx⟩ : ∃ x, x = oU P X := ⟨_, rfl⟩
              obtain ⟨y, hy⟩ : ∃ y, y = hallO P [q] := ⟨_, rfl⟩
              rw [← hX] at hru2 hl6 hso hsb
              have hcr : ∀ w', Ext wr w' → w'.cell? ⟨bl, ol + i, none⟩ = some (.slice a2 X.length cap2) := fun w' h => by rw [hX]; exact (grown_trans hgr h).cell hcl (by simp)
              have hcd : ∀ w', Ext wr w' → w'.cell? ⟨b, o + i, none⟩ = some (.int .i64 q) := fun w' h => by rw [hq]; exact (grown_trans hg h).cell hcq (by simp)
              have f1 : ∀ w', Ext wr w' → w'.cell? ⟨w.heap.size, 0, none⟩ = some vo6 := fun w' h => (HB.out w' (grown_trans hgr h)).1
              have f2 : ∀ w', Ext wr w' → w'.cell? ⟨w.heap.size, 1, none⟩ = some vp6 := fun w' h => (HB.out w' (grown_trans hgr h)).2.1
              have f3 : ∀ w', Ext wr w' → w'.cell? ⟨w.heap.size, 2, none⟩ = some vc6 := fun w' h => (HB.out w' (grown_trans hgr h)).2.2
              have hsz : ∀ w', Ext wr w' → Calls Tryz.prog 61 #[.agg #[vo6, vp6, vc6], .slice a2 X.length cap2] w' (Ret w' fun _ v => v = .int .i64 x) := fun w' h => by
                rw [hx]; exact l12Order_ok P G.v w' _ _ X Any _ ⟨_, _, _, rfl, Pres3.ext h36 (grown_trans hgr h)⟩ (Rows2.ext hru2 h) hso (by omega)
              have hor : ∀ w', Ext wr w' → Calls Tryz.prog 63 #[.agg #[vo6, vp6, vc6]] w' (Ret w' fun _ v => v = .int .i64 (ordP P)) := fun w' h => l10Order_ok w' _ P Any G.v ⟨_, _, _, rfl, Pres3.ext h36 (grown_trans hgr h)⟩
              have hpt : ∀ w', Calls Tryz.prog 62 #[.int .i64 (ordP P), .int .i64 q] w' (Ret w' fun _ v => v = .int .i64 y) := fun w' => by rw [hy]; exact part_hall G hq7 w'
              obtain ⟨N, hN2⟩ : ∃ N, N = ordP P := ⟨_, rfl⟩
              rw [← hN2] at hor hpt
              have HX := Lib.hid (And.intro hX (And.intro hq (And.intro hx hy))); clear hX hq hx hy hN2 hsb hru2 hru hcl hcq hso hq7
              go_wp2
              go_region_held3 (fun w' => Ext wr w') (first | exact grown_drew _ _ | exact Ext.refl _ | assumption)
                (first
                  | (go_at_call 61; refine Calls.mono (Calls.rel (w0 := wr) (by first | assumption | exact grown_drew _ _) (hsz _ (by first | assumption | exact grown_drew _ _))) ?_; rintro e3 w3 ⟨v3, rfl, hg3, hs3, rfl⟩)
                  | (go_at_call 63; refine Calls.mono (Calls.rel (w0 := wr) (by first | assumption | exact grown_drew _ _) (hor _ (by first | assumption | exact grown_drew _ _))) ?_; rintro e4 w4 ⟨v4, rfl, hg4, hs4, rfl⟩)
                  | (go_at_call 62; refine Calls.mono (Calls.rel (w0 := wr) (by first | assumption | exact grown_drew _ _) (hpt _)) ?_; rintro e5 w5 ⟨v5, rfl, hg5, hs5, rfl⟩))
              clear f1 f2 f3 hcr hcd hsz hor hpt
              have hg25 := grown_trans hg hg5
              by_cases hxy : x = y
              · have hxy' : (x != y) = false := by rw [hxy]; simp
                have hI2 : Hid (∀ k, k < i + 1 → oU P (gt us k) = hallO P [gt (dvs (ordP P)) k]) := Lib.hid (fun k hk => by
                  rcases Nat.lt_succ_iff_lt_or_eq.1 hk with h | h
                  · exact hI.out k h
                  · rw [h, ← HX.out.1, ← HX.out.2.1, ← HX.out.2.2.1, ← HX.out.2.2.2]; exact hxy)
                rw [hxy']
                clear hxy hxy'
                go_wp2
                go_roundw
                case rel => exact ⟨i + 1, by go_num, by omega, hg25, hI2⟩
                case measure => simp [intOf]; omega
              · have hxy' : (x != y) = true := by simpa using hxy
                have hbad : isyV P us = false := HZ.out.2.1 (fun hh => hxy (by
                  have h := hh.2.1 i hiu
                  rw [← HX.out.1, ← HX.out.2.1, ← HX.out.2.2.1, ← HX.out.2.2.2] at h
                  exact h))
                have HF := Lib.hid (And.intro HZ.out.1 hbad); clear hbad hxy
                go_wp2
                go_ret2
                exact ⟨_, rfl, grown_trans hgw2 hg25, by rw [HF.out.1, HF.out.2]; rfl⟩
            · have hie : i = m := by omega
              subst hie
              have hsize := hI
              clear hI
              obtain ⟨m, rfl⟩ : ∃ m, m = i := ⟨_, rfl⟩
              obtain ⟨wk, rfl⟩ : ∃ wk : World, wk = wr := ⟨_, rfl⟩
              go_wp2
              go_loopw [9] (fun iv wr => ∃ (s : Nat), iv = .int .i64 (s : Int) ∧ s ≤ m ∧ Ext wk wr ∧ Hid (∀ a b, a < b → b < m → a < s → joU P (gt us a) (gt us b) = oU P (gt us a) * oU P (gt us b))) (fun iv _ => m - (intOf iv).toNat)
              case atStart => exact ⟨0, by go_num, Nat.zero_le _, Ext.refl _, Lib.hid (fun a b _ _ h => by omega)⟩
              case round =>
                obtain ⟨s, rfl, hs, hgk, hK⟩ := hrel
                have hgrk := grown_trans hgr hgk
                by_cases hlts : s < m
                · have hlts' : (s : Int) < (m : Int) := by omega
                  have hsu : s < us.length := by rw [← HM.out.1]; exact hlts
                  have hsbX := HY.out.2 _ (gt_mem hsu)
                  obtain ⟨bl, ol, a2, cap2, hal, _, hbl, hcl, hru⟩ := Rows3.at hu0 s (by rw [← HM.out.1]; exact hlts)
                  subst hal
                  have hlX := G.sub_len hsbX
                  have hn6 := G.v.n6
                  have hsoX := seqOk_sub G hsbX
                  obtain ⟨X, hX⟩ : ∃ X, X = gt us s := ⟨_, rfl⟩
                  rw [← hX] at hru hsbX hlX hsoX
                  have hcX : ∀ w', Ext wk w' → w'.cell? ⟨bl, ol + s, none⟩ = some (.slice a2 X.length cap2) := fun w' h => by rw [hX]; exact (grown_trans hgr h).cell hcl (by simp)
                  obtain ⟨wo, rfl⟩ : ∃ wo : World, wo = wr := ⟨_, rfl⟩
                  have HXX := Lib.hid (And.intro hX (And.intro hsbX (And.intro hsoX (And.intro hcX hru)))); clear hX hsbX hsoX hcX hru hcl
                  go_wp2
                  go_loopw [10] (fun iv wr => ∃ (t : Nat), iv = .int .i64 (t : Int) ∧ s + 1 ≤ t ∧ t ≤ m ∧ Ext wo wr ∧ Hid (∀ b, s < b → b < t → joU P X (gt us b) = oU P X * oU P (gt us b))) (fun iv _ => m - (intOf iv).toNat)
                  case atStart => exact ⟨s + 1, by go_num, Nat.le_refl _, by omega, Ext.refl _, Lib.hid (fun b h1 h2 => by omega)⟩
                  case round =>
                    obtain ⟨t, rfl, hst, ht, hgo, hT⟩ := hrel
                    have hgro := grown_trans hgrk hgo
                    by_cases hltt : t < m
                    · have hltt' : (t : Int) < (m : Int) := by omega
                      have htu : t < us.length := by rw [← HM.out.1]; exact hltt
                      have hsbY := HY.out.2 _ (gt_mem htu)
                      obtain ⟨bl', ol', a3, cap3, hal', _, hbl', hcl', hru'⟩ := Rows3.at hu0 t (by rw [← HM.out.1]; exact hltt)
                      cases hal'
                      have hlY := G.sub_len hsbY
                      have hsoY := seqOk_sub G hsbY
                      obtain ⟨Y, hY⟩ : ∃ Y, Y = gt us t := ⟨_, rfl⟩
                      rw [← hY] at hru' hsbY hlY hsoY
                      have hRX : Rows2 Any wr (.slice a2 X.length cap2) X := Rows2.sub (Rows2.ext HXX.out.2.2.2.2 hgro) (fun _ _ _ => trivial)
                      have hRY : Rows2 Any wr (.slice a3 Y.length cap3) Y := Rows2.sub (Rows2.ext hru' hgro) (fun _ _ _ => trivial)
                      have hvec : ∀ x ∈ X ++ Y, Vec P.orders x := fun x hx => by
                        rcases List.mem_append.1 hx with h | h
                        · exact HXX.out.2.1.1 x h
                        · exact hsbY.1 x h
                      have hXl : ∀ x ∈ X, x.length ≤ 1000000 := fun x hx => by rw [(hvec x (List.mem_append_left _ hx)).1]; omega
                      have hc4 : ∀ w', Ext wr w' → w'.cell? ⟨bl, ol + s, none⟩ = some (.slice a2 X.length cap2) := fun w' h => HXX.out.2.2.2.1 w' (grown_trans hgk (grown_trans hgo h))
                      have hc5 : ∀ w', Ext wr w' → w'.cell? ⟨bl, ol + t, none⟩ = some (.slice a3 Y.length cap3) := fun w' h => by rw [hY]; exact (grown_trans hgro h).cell hcl' (by simp)
                      have f1 : ∀ w', Ext wr w' → w'.cell? ⟨w.heap.size, 0, none⟩ = some vo6 := fun w' h => (HB.out w' (grown_trans hgro h)).1
                      have f2 : ∀ w', Ext wr w' → w'.cell? ⟨w.heap.size, 1, none⟩ = some vp6 := fun w' h => (HB.out w' (grown_trans hgro h)).2.1
                      have f3 : ∀ w', Ext wr w' → w'.cell? ⟨w.heap.size, 2, none⟩ = some vc6 := fun w' h => (HB.out w' (grown_trans hgro h)).2.2
                      have HYY := Lib.hid (And.intro hY (And.intro hsbY (And.intro hsoY (And.intro hvec (And.intro hXl hc5))))); clear hY hsbY hsoY hvec hXl hru' hcl'
                      go_wp2
                      go_region_held3 (fun w' => Ext wr w') (first | exact grown_drew _ _ | exact Ext.refl _ | assumption)
                        (first
                          | (go_at_call 65; refine Calls.mono (Calls.rel2 (w0 := wr) (by assumption) (l01Own2N_ok _ _ X Any (Rows2.ext hRX (by assumption)) HYY.out.2.2.2.2.1 (by omega))) ?_; rintro eA wA ⟨vA, rfl, hgA, hgA2, hsA, hOA, gA, capA, rfl⟩)
                          | (refine step_app_rows rfl _ _ rfl wr.heap.size gA capA X Y rfl (hOA.weak hsA) _ (fun k => k < wr.heap.size) (Rows2.sub (Rows2.ext (Rows2.sub hRY (S' := fun k => k < wr.heap.size) (fun k _ h => h)) hgA) (fun _ h _ => h)) (fun k h _ => h) rfl (by omega) hgA.size ?_; intro vB wB hRB hgB; have hgwB : Ext wr wB := grown_own hgA hgB (fun j hj hlt => by
                                cases hj
                                obtain ⟨vs, G0, _, hOO, _⟩ := hOA
                                have := (hOO.lt gA rfl).1
                                omega); obtain ⟨aB, capB, hvB, _, _⟩ := Sl.shape hRB; rw [List.length_append] at hvB; subst hvB)
                          | (go_at_call 64; refine Calls.mono (Calls.rel (w0 := wr) (by assumption) (l12Close_ok P G _ (.agg #[vo6, vp6, vc6]) _ (X ++ Y) Any Any ⟨_, _, _, rfl, Pres3.ext h36 (grown_trans hgro (by assumption))⟩ hRB HYY.out.2.2.2.1 (by rw [List.length_append]; omega))) ?_; rintro eC wC ⟨vC, rfl, hgC, hsC, hRC⟩))
                      clear f1 f2 f3 hc4 hc5
                      have hgroC := grown_trans hgro hgC
                      have hSJ : Sub P (genP P (fun x => x ∈ X ++ Y)) := G.genP_sub HYY.out.2.2.2.1
                      have hlJ := G.cseq_len hSJ
                      obtain ⟨aC, capC, hvC, _, _⟩ := Sl.shape hRC
                      obtain ⟨J, hJ⟩ : ∃ J, J = cseq P (genP P (fun x => x ∈ X ++ Y)) := ⟨_, rfl⟩
                      have hsoJ := (G.seq_facts hSJ).1
                      rw [← hJ] at hRC hvC hlJ hsoJ
                      subst hvC
                      obtain ⟨x, hx⟩ : ∃ x, x = oU P X := ⟨_, rfl⟩
                      obtain ⟨y, hy⟩ : ∃ y, y = oU P Y := ⟨_, rfl⟩
                      obtain ⟨jz, hjz⟩ : ∃ jz, jz = joU P X Y := ⟨_, rfl⟩
                      have hoX : ∀ w', Ext wC w' → Calls Tryz.prog 61 #[.agg #[vo6, vp6, vc6], .slice a2 X.length cap2] w' (Ret w' fun _ v => v = .int .i64 x) := fun w' h => by
                        rw [hx]; exact l12Order_ok P G.v w' _ _ X Any _ ⟨_, _, _, rfl, Pres3.ext h36 (grown_trans hgroC h)⟩ (Rows2.ext hRX (grown_trans hgC h)) HXX.out.2.2.1 (by omega)
                      have hoY : ∀ w', Ext wC w' → Calls Tryz.prog 61 #[.agg #[vo6, vp6, vc6], .slice a3 Y.length cap3] w' (Ret w' fun _ v => v = .int .i64 y) := fun w' h => by
                        rw [hy]; exact l12Order_ok P G.v w' _ _ Y Any _ ⟨_, _, _, rfl, Pres3.ext h36 (grown_trans hgroC h)⟩ (Rows2.ext hRY (grown_trans hgC h)) HYY.out.2.2.1 (by omega)
                      have hoJ : ∀ w', Ext wC w' → Calls Tryz.prog 61 #[.agg #[vo6, vp6, vc6], .slice aC J.length capC] w' (Ret w' fun _ v => v = .int .i64 jz) := fun w' h => by
                        rw [hjz, show joU P X Y = prodU P J J.length by rw [hJ]; rfl]
                        exact l12Order_ok P G.v w' _ _ J Any _ ⟨_, _, _, rfl, Pres3.ext h36 (grown_trans hgroC h)⟩ (Rows2.ext hRC h) hsoJ (by omega)
                      have hbx := prodU_729 G.v HXX.out.2.2.1 _ (Nat.le_refl _)
                      have hby := prodU_729 G.v HYY.out.2.2.1 _ (Nat.le_refl _)
                      obtain ⟨z, hz⟩ : ∃ z, z = x * y := ⟨_, rfl⟩
                      have hwz : IntKind.i64.wrap (x * y) = z := by
                        have hx' : 0 ≤ x ∧ x ≤ 729 := by rw [hx]; unfold oU; omega
                        have hy' : 0 ≤ y ∧ y ≤ 729 := by rw [hy]; unfold oU; omega
                        have h0 : 0 ≤ x * y := Int.mul_nonneg hx'.1 hy'.1
                        have h1 : x * y ≤ 729 * 729 := Int.mul_le_mul hx'.2 hy'.2 hy'.1 (by omega)
                        rw [IntWalk.i64_in _ (by omega), hz]
                      have hc4 : ∀ w', Ext wC w' → w'.cell? ⟨bl, ol + s, none⟩ = some (.slice a2 X.length cap2) := fun w' h => HXX.out.2.2.2.1 w' (grown_trans hgk (grown_trans hgo (grown_trans hgC h)))
                      have hc5 : ∀ w', Ext wC w' → w'.cell? ⟨bl, ol + t, none⟩ = some (.slice a3 Y.length cap3) := fun w' h => HYY.out.2.2.2.2.2 w' (grown_trans hgC h)
                      have f1 : ∀ w', Ext wC w' → w'.cell? ⟨w.heap.size, 0, none⟩ = some vo6 := fun w' h => (HB.out w' (grown_trans hgroC h)).1
                      have f2 : ∀ w', Ext wC w' → w'.cell? ⟨w.heap.size, 1, none⟩ = some vp6 := fun w' h => (HB.out w' (grown_trans hgroC h)).2.1
                      have f3 : ∀ w', Ext wC w' → w'.cell? ⟨w.heap.size, 2, none⟩ = some vc6 := fun w' h => (HB.out w' (grown_trans hgroC h)).2.2
                      have HZZ := Lib.hid (And.intro hx (And.intro hy (And.intro hjz hz))); clear hx hy hjz hz hbx hby hJ hsoJ hRX hRY hRC hSJ hRB hOA hgB
                      go_wp2
                      go_region_held3 (fun w' => Ext wC w') (first | exact grown_drew _ _ | exact Ext.refl _ | assumption)
                        (first
                          | (revert hg4; intro hg4; go_at_call 61; refine Calls.mono (Calls.rel (w0 := wC) (by first | assumption | exact grown_drew _ _) (hoY _ (by first | assumption | exact grown_drew _ _))) ?_; rintro e5 w5 ⟨v5, rfl, hg5, hs5, rfl⟩)
                          | (revert hg3; intro hg3; go_at_call 61; refine Calls.mono (Calls.rel (w0 := wC) (by first | assumption | exact grown_drew _ _) (hoX _ (by first | assumption | exact grown_drew _ _))) ?_; rintro e4 w4 ⟨v4, rfl, hg4, hs4, rfl⟩)
                          | (go_at_call 61; refine Calls.mono (Calls.rel (w0 := wC) (by first | assumption | exact grown_drew _ _) (hoJ _ (by first | assumption | exact grown_drew _ _))) ?_; rintro e3 w3 ⟨v3, rfl, hg3, hs3, rfl⟩))
                      clear f1 f2 f3 hc4 hc5 hoX hoY hoJ hwz
                      have hgo5 := grown_trans hgo (grown_trans hgC hg5)
                      by_cases hjj : jz = z
                      · have hjj' : (jz != z) = false := by rw [hjj]; simp
                        have hT2 : Hid (∀ b, s < b → b < t + 1 → joU P X (gt us b) = oU P X * oU P (gt us b)) := Lib.hid (fun b h1 h2 => by
                          rcases Nat.lt_succ_iff_lt_or_eq.1 h2 with h | h
                          · exact hT.out b h1 h
                          · rw [h, ← HYY.out.1, ← HZZ.out.2.2.1, ← HZZ.out.1, ← HZZ.out.2.1, hjj, HZZ.out.2.2.2])
                        rw [hjj']
                        clear hjj hjj'
                        go_wp2
                        go_roundw
                        case rel => exact ⟨t + 1, by go_num, by omega, by omega, hgo5, hT2⟩
                        case measure => simp [intOf]; omega
                      · have hjj' : (jz != z) = true := by simpa using hjj
                        have hbad : isyV P us = false := HZ.out.2.1 (fun hh => hjj (by
                          have h := hh.2.2 t s (by omega) htu
                          rw [← HXX.out.1, ← HYY.out.1, ← HZZ.out.2.2.1, ← HZZ.out.1, ← HZZ.out.2.1, ← HZZ.out.2.2.2] at h
                          exact h))
                        have HF := Lib.hid (And.intro HZ.out.1 hbad); clear hbad hjj
                        go_wp2
                        go_ret2
                        exact ⟨_, rfl, grown_trans hg0 (grown_trans hgrk hgo5), by rw [HF.out.1, HF.out.2]; rfl⟩
                    · have hte : t = m := by omega
                      subst hte
                      have hK2 : Hid (∀ a b, a < b → b < t → a < s + 1 → joU P (gt us a) (gt us b) = oU P (gt us a) * oU P (gt us b)) := Lib.hid (fun a b h1 h2 h3 => by
                        rcases Nat.lt_succ_iff_lt_or_eq.1 h3 with h | h
                        · exact hK.out a b h1 h2 h
                        · rw [h] at h1 ⊢
                          rw [← HXX.out.1]
                          exact hT.out b h1 h2)
                      go_wp2
                      go_roundw
                      case rel => exact ⟨s + 1, by go_num, by omega, grown_trans hgk hgo, hK2⟩
                      case measure => simp [intOf]; omega
                · have hse : s = m := by omega
                  subst hse
                  have hV : isyV P us = true := isyV_yes HY.out ⟨by rw [← HM.out.1, ← HN.out]; exact HZ.out.2.2.symm, by rw [← HM.out.1]; exact hsize.out, by rw [← HM.out.1]; exact fun a b hb ha => hK.out b a hb ha (by omega)⟩
                  have HF := Lib.hid (And.intro HZ.out.1 hV); clear hV
                  go_wp2
                  go_ret2
                  exact ⟨_, rfl, grown_trans hg0 hgrk, by rw [HF.out.1, HF.out.2]; rfl⟩
        · have hnm' : ((n : Int) != (i : Int)) = true := by simp; omega
          have HF := Lib.hid (And.intro (isyC_yes HY.out) (isyV_no (fun h => hnm (by rw [HM.out.1, HN.out]; exact h.2.1.symm)) : isyV P us = false))
          clear hnm
          go_wp2
          go_ret2
          exact ⟨_, rfl, hgw2, by rw [HF.out.1, HF.out.2]; rfl⟩

end Go.Proofs.YtdklekdpdbjfiaaGreat

/- Three-fold lists in blocks of their own: a reading that names its blocks. -/
namespace Go.Proofs.YtdklekdpdbjfiaaGreat
open Go.RowKit

theorem rdRows3 : RdOk (fun F w u (x : List (List (List Int))) => Rows3D F w u x) :=
  ⟨fun h hb => SlD.mono rdRows h hb, fun h => by obtain ⟨_, _, _, _, _, a, cap, rfl, _⟩ := h; rfl⟩

end Go.Proofs.YtdklekdpdbjfiaaGreat

/- laws.FnExactIsSylowSystem: whatever the arguments, the law answers true. (Printed by gen_law.py.) -/
namespace Go.Proofs.YtdklekdpdbjfiaaGreat
open Go.RowKit

set_option maxRecDepth 100000 in
set_option maxHeartbeats 32000000 in
theorem lawIsy_ok (P : Pr) (U0 : List (List (List Int))) (w : World) (pv uv0 : Value) (S S0 : Nat → Prop) (hpv : PresV S w pv P) (hu0 : Rows3 S0 w uv0 U0) :
    Calls Tryz.prog 3 #[pv, uv0] w (Ret w fun _ v => v = .bool true) := by
  obtain ⟨vo, vp, vc, rfl, h3⟩ := hpv
  obtain ⟨au0, cu0, rfl, _, hub0⟩ := Sl.shape hu0
  have hg0 : Ext w (w.alloc (.cells #[vo, vp, vc] 26)) := World.grownBy_alloc _ _ _
  have hB := Box3.made w 26 vo vp vc
  have HB := Lib.hid hB; clear hB
  go_enter Tryz.func3, Tryz.ntmps3
  go_wp2_with fail
  generalize w.alloc (.cells #[vo, vp, vc] 26) = w0 at *
  have hbx := HB.out
  have s_b := Lib.hid hbx.1
  refine Calls.mono (szPresentation_ok _ P 1048576 _ S ⟨_, _, _, rfl, h3.ext hg0⟩ (by omega)) ?_
  rintro eA wA ⟨vA, rfl, hgA, ⟨hA, rfl⟩ | ⟨hA, rfl⟩⟩
  case inr =>
    go_wp2
    go_ret
    exact ⟨_, rfl, grown_trans hg0 hgA, rfl⟩
  have hsz : sizeP P ≤ 1048576 := by omega
  obtain ⟨l0, hl0⟩ : ∃ l0 : Int, l0 = 1048576 - (sizeP P : Nat) := ⟨_, rfl⟩
  rw [← hl0]
  have hb0 : 0 ≤ l0 ∧ l0 ≤ 1048576 := by omega
  have Hl0 := Lib.hid hl0; clear hl0 hA
  have hn0 : ¬ l0 < 0 := by omega
  have a_1 := grown_trans hg0 hgA
  have b_1 := hbx.ext hgA
  clear hg0 hbx
  have s_1 := Lib.hid hgA.size
  go_wp2_with fail
  refine Calls.mono (szInt64SSS_ok _ U0 l0 _ S0 (Rows3.ext hu0 a_1) hb0) ?_
  rintro eB0 wB0 ⟨vB0, rfl, hgB0, ⟨hA, rfl⟩ | ⟨hA, rfl⟩⟩
  case inr =>
    go_wp2
    go_ret
    exact ⟨_, rfl, grown_trans a_1 hgB0, rfl⟩
  have hsu0 : size3 U0 ≤ 1048576 := by omega
  obtain ⟨l1, hl1⟩ : ∃ l1 : Int, l1 = l0 - (size3 U0 : Nat) := ⟨_, rfl⟩
  rw [← hl1]
  have hb1 : 0 ≤ l1 ∧ l1 ≤ 1048576 := by omega
  have Hl1 := Lib.hid hl1; clear hl1 hA hn0
  have hn1 : ¬ l1 < 0 := by omega
  have a_2 := grown_trans a_1 hgB0
  have b_2 := b_1.ext hgB0
  clear a_1 b_1
  have s_2 := Lib.hid hgB0.size
  obtain ⟨_, b0, b1, b2, _⟩ := id b_2
  go_wp2_with fail
  clear b0 b1 b2
  refine Calls.mono (toPresentation_ok _ P wB0 S ⟨_, _, _, rfl, h3.ext a_2⟩ hsz) ?_
  rintro eAP wAP ⟨vAP, rfl, hgAP, hpA⟩
  have hqA : PresW (fun k => wB0.heap.size ≤ k ∧ k < wAP.heap.size) wAP vAP P := hpA.mono (fun k hk hlt => ⟨⟨hk, hlt⟩, hlt, rfl⟩)
  obtain ⟨Aa1, Ac1, Aa2, Ac2, Aa3, Ac3, rfl⟩ := hpA.shape
  clear hpA
  have a_3 := grown_trans a_2 hgAP
  have b_3 := b_2.ext hgAP
  clear a_2 b_2
  have s_3 := Lib.hid hgAP.size
  go_wp2_with fail
  refine Calls.mono (toInt64SSS_ok _ U0 wAP S0 (Rows3.ext hu0 a_3) hsu0) ?_
  rintro eA0 wA0 ⟨vA0, rfl, hgA0, hO⟩
  have hyA0 : Rows3D (fun k => wAP.heap.size ≤ k ∧ k < wA0.heap.size) wA0 vA0 U0 := rdRows3.mono (SlO.toD hO (by omega)) (fun k h1 h2 => ⟨⟨h1, h2⟩, h2, rfl⟩)
  clear hO
  obtain ⟨yAa0, yAc0, hvy, _, _⟩ := SlD.shape hyA0; subst hvy
  have a_4 := grown_trans a_3 hgA0
  have b_4 := b_3.ext hgA0
  have pA_4 := hqA.ext hgA0
  clear a_3 b_3 hqA
  have s_4 := Lib.hid hgA0.size
  go_wp2_with fail
  refine Calls.mono (sIsy_ok P wA0 _ _ U0 _ _ (PresW.v pA_4) (Rows3D.rows hyA0)) ?_
  rintro eR wR ⟨vR, rfl, hgR, rfl⟩
  clear pA_4
  clear hyA0
  have a_5 := grown_trans a_4 hgR
  have b_5 := b_4.ext hgR
  clear a_4 b_4
  have s_5 := Lib.hid hgR.size
  obtain ⟨_, b0, b1, b2, _⟩ := id b_5
  go_wp2_with fail
  clear b0 b1 b2
  refine Calls.mono (toPresentation_ok _ P wR S ⟨_, _, _, rfl, h3.ext a_5⟩ hsz) ?_
  rintro eBP wBP ⟨vBP, rfl, hgBP, hpB⟩
  have hqB : PresW (fun k => wR.heap.size ≤ k ∧ k < wBP.heap.size) wBP vBP P := hpB.mono (fun k hk hlt => ⟨⟨hk, hlt⟩, hlt, rfl⟩)
  obtain ⟨Ba1, Bc1, Ba2, Bc2, Ba3, Bc3, rfl⟩ := hpB.shape
  clear hpB
  have a_6 := grown_trans a_5 hgBP
  have b_6 := b_5.ext hgBP
  clear a_5 b_5
  have s_6 := Lib.hid hgBP.size
  have hgBX : Ext wBP (wBP.alloc (.cells #[.slice Ba1 P.orders.length Bc1, .slice Ba2 P.powers.length Bc2, .slice Ba3 P.conj.length Bc3] 31)) := World.grownBy_alloc _ _ _
  have hxB := Box3.made wBP 31 (.slice Ba1 P.orders.length Bc1) (.slice Ba2 P.powers.length Bc2) (.slice Ba3 P.conj.length Bc3)
  have sxB : (wBP.alloc (.cells #[.slice Ba1 P.orders.length Bc1, .slice Ba2 P.powers.length Bc2, .slice Ba3 P.conj.length Bc3] 31)).heap.size = wBP.heap.size + 1 := by simp
  have HxB := Lib.hid (And.intro hxB sxB); clear hxB sxB
  go_wp2_with fail
  generalize wBP.alloc (.cells #[.slice Ba1 P.orders.length Bc1, .slice Ba2 P.powers.length Bc2, .slice Ba3 P.conj.length Bc3] 31) = wBX at *
  have hxxB := HxB.out.1
  have sxB := Lib.hid HxB.out.2
  have a_7 := grown_trans a_6 hgBX
  have b_7 := b_6.ext hgBX
  have pB_7 := hqB.ext hgBX
  clear a_6 b_6 hqB
  have s_7 := Lib.hid hgBX.size
  refine Calls.mono (toInt64SSS_ok _ U0 wBX S0 (Rows3.ext hu0 a_7) hsu0) ?_
  rintro eB0 wB0 ⟨vB0, rfl, hgB0, hO⟩
  have hyB0 : Rows3D (fun k => wBX.heap.size ≤ k ∧ k < wB0.heap.size) wB0 vB0 U0 := rdRows3.mono (SlO.toD hO (by omega)) (fun k h1 h2 => ⟨⟨h1, h2⟩, h2, rfl⟩)
  clear hO
  obtain ⟨yBa0, yBc0, hvy, _, _⟩ := SlD.shape hyB0; subst hvy
  have a_8 := grown_trans a_7 hgB0
  have b_8 := b_7.ext hgB0
  have pB_8 := pB_7.ext hgB0
  have xB_8 := hxxB.ext hgB0
  clear a_7 b_7 pB_7 hxxB
  have s_8 := Lib.hid hgB0.size
  obtain ⟨_, b0, b1, b2, _⟩ := id xB_8
  go_wp2_with fail
  clear b0 b1 b2
  refine Calls.mono (iIsy_ok P wB0 _ _ U0 _ _ (PresW.v pB_8) (Rows3D.rows hyB0)) ?_
  rintro eG wG ⟨vG, rfl, hgG, rfl⟩
  have a_9 := grown_trans a_8 hgG
  have b_9 := b_8.ext hgG
  have pB_9 := pB_8.ext hgG
  have xB_9 := xB_8.ext hgG
  have yB0_9 := rdRows3.mono hyB0 (frame_ext hgG)
  clear a_8 b_8 pB_8 xB_8 hyB0
  have s_9 := Lib.hid hgG.size
  go_wp2_with fail
  have ha0 : ∀ w', Ext wG w' → w'.cell? ⟨w.heap.size, 0, none⟩ = some vo := fun w' h => (b_9.ext h).2.1
  have ha1 : ∀ w', Ext wG w' → w'.cell? ⟨w.heap.size, 1, none⟩ = some vp := fun w' h => (b_9.ext h).2.2.1
  have ha2 : ∀ w', Ext wG w' → w'.cell? ⟨w.heap.size, 2, none⟩ = some vc := fun w' h => (b_9.ext h).2.2.2.1
  have hx0 : ∀ w', Ext wG w' → w'.cell? ⟨wBP.heap.size, 0, none⟩ = some (.slice Ba1 P.orders.length Bc1) := fun w' h => (xB_9.ext h).2.1
  have hx1 : ∀ w', Ext wG w' → w'.cell? ⟨wBP.heap.size, 1, none⟩ = some (.slice Ba2 P.powers.length Bc2) := fun w' h => (xB_9.ext h).2.2.1
  have hx2 : ∀ w', Ext wG w' → w'.cell? ⟨wBP.heap.size, 2, none⟩ = some (.slice Ba3 P.conj.length Bc3) := fun w' h => (xB_9.ext h).2.2.2.1
  go_region_held3 (fun w' => Ext wG w') (first | exact grown_drew _ _ | assumption)
    (first
      | (go_at_call 18; refine Calls.mono (Calls.rel (w0 := wG) (by assumption) (toPresentation_ok _ P _ S ⟨_, _, _, rfl, Pres3.ext h3 (grown_trans a_9 (by assumption))⟩ hsz)) ?_; rintro e8 w8 ⟨v8, rfl, hg8, hs8, hp8⟩; obtain ⟨ya, yc, yb, yd, ye, yf, rfl⟩ := hp8.shape)
      | (go_at_call 21; refine Calls.mono (Calls.rel (w0 := wG) (by assumption) (eqPresentation_ok _ _ P _ _ _ (PresW.v (PresW.ext pB_9 (by assumption))) (PresW.v hp8))) ?_; rintro e9 w9 ⟨v9, rfl, hg9, hs9, rfl⟩))
  clear ha0 ha1 ha2 hx0 hx1 hx2 hp8 hg8
  have a_10 := grown_trans a_9 hg9
  have b_10 := b_9.ext hg9
  have pB_10 := pB_9.ext hg9
  have xB_10 := xB_9.ext hg9
  have yB0_10 := rdRows3.mono yB0_9 (frame_ext hg9)
  clear a_9 b_9 pB_9 xB_9 yB0_9
  have s_10 := Lib.hid hg9.size
  go_wp2_with fail
  refine Calls.mono (toInt64SSS_ok _ U0 w9 S0 (Rows3.ext hu0 a_10) hsu0) ?_
  rintro eC0 wC0 ⟨vC0, rfl, hgC0, hO⟩
  have hOD := SlO.toD hO (by omega)
  clear hO
  obtain ⟨za0, zc0, hvz, _, _⟩ := SlD.shape hOD; subst hvz
  have a_11 := grown_trans a_10 hgC0
  have b_11 := b_10.ext hgC0
  have pB_11 := pB_10.ext hgC0
  have xB_11 := xB_10.ext hgC0
  have yB0_11 := rdRows3.mono yB0_10 (frame_ext hgC0)
  clear a_10 b_10 pB_10 xB_10 yB0_10
  have s_11 := Lib.hid hgC0.size
  go_wp2_with fail
  refine Calls.mono (eqInt64SSS_ok _ _ _ _ wC0 _ _ (Rows3D.rows yB0_11) (Rows3D.rows hOD)) ?_
  rintro eD0 wD0 ⟨vD0, rfl, hgD0, rfl⟩
  clear hOD
  have hEU0 : eqB U0 U0 = true := eqB_true.2 rfl
  have a_12 := grown_trans a_11 hgD0
  have b_12 := b_11.ext hgD0
  have pB_12 := pB_11.ext hgD0
  have xB_12 := xB_11.ext hgD0
  have yB0_12 := rdRows3.mono yB0_11 (frame_ext hgD0)
  clear a_11 b_11 pB_11 xB_11 yB0_11
  have s_12 := Lib.hid hgD0.size
  go_wp2
  go_ret
  exact ⟨_, rfl, a_12, rfl⟩

end Go.Proofs.YtdklekdpdbjfiaaGreat

/- The rows' arguments: how a presentation that came in, or a list, reads in this claim's words. -/
namespace Go.Proofs.YtdklekdpdbjfiaaGreat
open Go.RowKit Go.ChangeShapes Go.WideShapes Go.Deep

theorem cells_int64 : Tryz.prog.cellsOf 2 = 1 := by kernel_rfl
theorem cells_ints : Tryz.prog.cellsOf 22 = 1 := by kernel_rfl
theorem cells_rows : Tryz.prog.cellsOf 23 = 1 := by kernel_rfl
theorem und_int64r : Tryz.prog.underlying 2 = some (.int .i64) := by kernel_rfl

section
variable {H : Type} {enc : TypeId × Value → H} {W : World} {sp : Nat → Bool}

/-- a slice that was read is one of this claim's slices -/
theorem open_sl {α : Type} [Inhabited α] {El : World → Value → α → Prop} {t e : TypeId} (ht : Tryz.prog.underlying t = some (.slice e)) (hc : Tryz.prog.cellsOf e = 1)
    (hEl : ∀ n c x, DataW.trod enc Tryz.prog W 0 sp true n e [c] = some x → ∃ y, El W c y) {fuel : Nat} {c : Value} {x : DataW H × List MemPlace} (h : DataW.trod enc Tryz.prog W 0 sp true fuel t [c] = some x) :
    ∃ xs : List α, Sl El Any W c xs := by
  rcases open_slice1 ht hc h with ⟨hcs, _⟩ | ⟨a, len, cap, m, n, V, D, Pl, hcs, _, hl, hm, hmm, _, hx⟩
  · cases hcs
    exact ⟨[], none, 0, rfl, ⟨by simp, by simp, fun _ => rfl⟩, fun i hi => by simp at hi⟩
  · cases hcs
    have hlm : len ≤ m := by rw [hmm]; split <;> omega
    obtain ⟨Z, hZ⟩ := choose_lt (α := α) (n := len) (p := fun i y => El W (V i) y) (fun i hi => hEl n (V i) _ (hx i (by omega)).2)
    refine ⟨(List.range len).map Z, some a, cap, by simp, ⟨by simpa using hl, by simp; unfold maxLen at hm; omega, fun h => by cases h⟩, fun i hi => ?_⟩
    simp only [List.length_map, List.length_range] at hi
    obtain ⟨h1, h2⟩ := hx i (by omega)
    obtain ⟨b, off, spot⟩ := a
    have hs : spot = none := by
      have h0 := (hx 0 (by omega)).1
      exact World.cell?_spot (by simpa [Addr.add] using h0)
    subst hs
    have hcell : W.cell? ⟨b, off + i, none⟩ = some (V i) := by
      have e : (⟨b, off, none⟩ : Addr).add i = ⟨b, off + i, none⟩ := by
        unfold Addr.add; split
        · rename_i h; subst h; rfl
        · rfl
      rw [← e]; exact h1
    refine ⟨b, off, V i, rfl, trivial, World.block_lt_of_cell? W _ hcell, hcell, ?_⟩
    have : gt ((List.range len).map Z) i = Z i := by simp [gt, hi]
    rw [this]; exact hZ i hi

theorem open_i64 {n : Nat} {c : Value} {x : DataW H × List MemPlace} (h : DataW.trod enc Tryz.prog W 0 sp true n 2 [c] = some x) : ∃ y, IntEl W c y := by
  cases n with
  | zero => simp [DataW.trod] at h
  | succ n =>
    unfold DataW.trod at h
    rw [und_int64r] at h
    cases c <;> simp at h
    rename_i k z
    obtain ⟨⟨rfl, _⟩, _⟩ := h
    exact ⟨z, rfl⟩
theorem open_i64s {n : Nat} {c : Value} {x : DataW H × List MemPlace} (h : DataW.trod enc Tryz.prog W 0 sp true n 22 [c] = some x) : ∃ l, Ints Any W c l :=
  open_sl und_ints cells_int64 (fun _ _ _ h => open_i64 h) h
theorem open_rows2 {n : Nat} {c : Value} {x : DataW H × List MemPlace} (h : DataW.trod enc Tryz.prog W 0 sp true n 23 [c] = some x) : ∃ l, Rows2 Any W c l :=
  open_sl (El := fun w u x => Ints Any w u x) und_rows cells_ints (fun _ _ _ h => open_i64s h) h
theorem open_rows3 {n : Nat} {c : Value} {x : DataW H × List MemPlace} (h : DataW.trod enc Tryz.prog W 0 sp true n 24 [c] = some x) : ∃ l, Rows3 Any W c l :=
  open_sl (El := fun w u x => Rows2 Any w u x) und_rows3 cells_rows (fun _ _ _ h => open_rows2 h) h

theorem cells_pres : Tryz.prog.cellsOf 26 = 3 := by kernel_rfl

set_option maxRecDepth 100000 in
/-- a presentation that came in -/
theorem open_pres {base : Nat} {v : Value} {d : DataW H} {p : List MemPlace} (hv : Value.okWide Tryz.prog W .any base 26 v) (h : DataW.Trod enc Tryz.prog W 0 sp true 26 v d p) : ∃ P, PresV Any W v P := by
  obtain ⟨fs, hfs, h3⟩ : ∃ fs, Tryz.prog.underlying 26 = some (.struct fs) ∧ fs.map (fun f => (f.offset, f.type)) = #[(0, 22), (1, 23), (2, 24)] := ⟨_, Tryz.underlying26, by simp⟩
  obtain ⟨cs, rfl, hsz⟩ := okWide_struct hfs hv
  rw [cells_pres] at hsz
  obtain ⟨n, hn⟩ := h
  obtain ⟨xs, m, _, _, hl, hlen, hf⟩ := DataW.trod_struct hfs hn
  obtain ⟨c0, c1, c2, rfl⟩ : ∃ c0 c1 c2, cs = #[c0, c1, c2] := by
    match cs, hsz with
    | ⟨[c0, c1, c2]⟩, _ => exact ⟨c0, c1, c2, rfl⟩
  have hfsz : fs.size = 3 := by have := congrArg Array.size h3; simpa using this
  have hget : ∀ i (hi : i < 3), ∃ f, fs[i]? = some f ∧ (f.offset, f.type) = (#[(0, 22), (1, 23), (2, 24)] : Array (Nat × TypeId))[i]'(by simpa using hi) := fun i hi => by
    have h1 : (fs.map (fun f => (f.offset, f.type)))[i]? = (#[(0, 22), (1, 23), (2, 24)] : Array (Nat × TypeId))[i]? := by rw [h3]
    rw [Array.getElem?_map, Array.getElem?_eq_getElem (by omega), Array.getElem?_eq_getElem (by simpa using hi)] at h1
    exact ⟨_, Array.getElem?_eq_getElem (by omega), by simpa using h1⟩
  obtain ⟨f0, g0, e0⟩ := hget 0 (by omega)
  obtain ⟨f1, g1, e1⟩ := hget 1 (by omega)
  obtain ⟨f2, g2, e2⟩ := hget 2 (by omega)
  simp only [Prod.mk.injEq, List.getElem_toArray, List.getElem_cons_zero, List.getElem_cons_succ] at e0 e1 e2
  have k0 := hf 0 f0 g0
  have k1 := hf 1 f1 g1
  have k2 := hf 2 f2 g2
  rw [e0.1, e0.2, cells_ints, List.getElem?_eq_getElem (by omega)] at k0
  rw [e1.1, e1.2, cells_rows, List.getElem?_eq_getElem (by omega)] at k1
  rw [e2.1, e2.2, show Tryz.prog.cellsOf 24 = 1 by kernel_rfl, List.getElem?_eq_getElem (by omega)] at k2
  obtain ⟨o, ho⟩ := open_i64s k0
  obtain ⟨q, hq⟩ := open_rows2 k1
  obtain ⟨r, hr⟩ := open_rows3 k2
  exact ⟨⟨o, q, r⟩, c0, c1, c2, rfl, ⟨ho, hq, hr⟩⟩
end

end Go.Proofs.YtdklekdpdbjfiaaGreat
